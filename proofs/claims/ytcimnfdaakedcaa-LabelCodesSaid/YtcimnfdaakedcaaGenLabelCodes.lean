/- What the functions that the law reaches compute, and the walks that show it. -/
import Derived.Test.YtcimnfdaakedcaaEngO
import Derived.Test.YtcimnfdaakedcaaEngX
import Derived.Test.YtcimnfdaakedcaaProg
set_option linter.unusedVariables false
set_option linter.unusedSimpArgs false
namespace Go.E
open Go.RowKit Go.Proofs
structure S_cursor_rest where
  left : List Int
  bad : Bool
  deriving DecidableEq, Inhabited
def cS_cursor_rest (x : S_cursor_rest) (ao1 : Option Addr) (cap1 : Nat) : List Value := ([.slice ao1 x.left.length cap1] : List Value) ++ (([.bool x.bad] : List Value))
def rS_cursor_rest : Rep S_cursor_rest := rIso (fun x : S_cursor_rest => (x.left, x.bad)) (rPair (rSl 5 (rInt .u8)) rBool)
theorem rS_cursor_rest.open {w : World} {M : List Nat} {cs : List Value} {x : S_cursor_rest} (h : rS_cursor_rest.R w M cs x) : ∃ (ao1 : Option Addr) (cap1 : Nat), cs = cS_cursor_rest x ao1 cap1 ∧ RSl (rInt .u8) 5 w M ao1 cap1 x.left := by
  obtain ⟨c0, k0, e0, h0, h1⟩ := h
  obtain ⟨ao1, cap1, rfl, f1⟩ := h0
  obtain rfl := h1
  subst e0
  exact ⟨ao1, cap1, rfl, f1⟩
theorem rS_cursor_rest.mk {w : World} {M : List Nat} (x : S_cursor_rest) {ao1 : Option Addr} {cap1 : Nat} (f1 : RSl (rInt .u8) 5 w M ao1 cap1 x.left) : rS_cursor_rest.R w M (cS_cursor_rest x ao1 cap1) x := ⟨_, _, rfl, ⟨ao1, cap1, rfl, f1⟩, rfl⟩
def okS_cursor_rest (x : S_cursor_rest) : Prop := (okL 1 (okI .u8)) x.left ∧ okB x.bad
structure S_cursor_Reader where
  rest : S_cursor_rest
  deriving DecidableEq, Inhabited
def cS_cursor_Reader (x : S_cursor_Reader) (ao1 : Option Addr) (cap1 : Nat) : List Value := cS_cursor_rest x.rest ao1 cap1
def rS_cursor_Reader : Rep S_cursor_Reader := rIso (fun x : S_cursor_Reader => x.rest) rS_cursor_rest
theorem rS_cursor_Reader.open {w : World} {M : List Nat} {cs : List Value} {x : S_cursor_Reader} (h : rS_cursor_Reader.R w M cs x) : ∃ (ao1 : Option Addr) (cap1 : Nat), cs = cS_cursor_Reader x ao1 cap1 ∧ RSl (rInt .u8) 5 w M ao1 cap1 x.rest.left := by
  have h0 := h
  have h0 := rS_cursor_rest.open h0
  obtain ⟨ao1, cap1, rfl, f1⟩ := h0
  exact ⟨ao1, cap1, rfl, f1⟩
theorem rS_cursor_Reader.mk {w : World} {M : List Nat} (x : S_cursor_Reader) {ao1 : Option Addr} {cap1 : Nat} (f1 : RSl (rInt .u8) 5 w M ao1 cap1 x.rest.left) : rS_cursor_Reader.R w M (cS_cursor_Reader x ao1 cap1) x := (rS_cursor_rest.mk x.rest f1)
def okS_cursor_Reader (x : S_cursor_Reader) : Prop := (okS_cursor_rest) x.rest

def bytes_Clone.f (a0 : List Int) : Option (List Int) := if a0.length ≤ 140737488355328 then some a0 else none
theorem bytes_Clone.walk (w : World) (M : List Nat) (hM : MS M w) (a0 : List Int) (ao1 : Option Addr) (cap1 : Nat) (f1 : RSl (rInt .u8) 5 w M ao1 cap1 a0) (r : List Int) (H : bytes_Clone.f a0 = some r) :
    To Try.prog 36 [.slice ao1 a0.length cap1] w fun v w' => ∃ (ao2 : Option Addr) (cap2 : Nat), v = .slice ao2 r.length cap2 ∧ (Own (rInt .u8) 5 w' (blkL ao2 ++ M) ao2 cap2 r) ∧ (∀ x ∈ blkL ao2, w.heap.size ≤ x) ∧ Chg [] w w' ∧ MS (blkL ao2 ++ M) w' := by
  unfold bytes_Clone.f at H
  obtain ⟨hb, H⟩ := ite_some H
  obtain rfl := Option.some.inj H
  refine ent Try.func36 rfl [(0, .slice ao1 a0.length cap1)] rfl rfl fun a ha => ?_
  refine wp_seq_k fun K hK => ?_
  refine wp_region_lit ?_
  refine seg ha 1 [(0, .slice ao1 a0.length cap1)] (by kernel_rfl) fun a ha => ?_
  refine hK _ _ ?_; clear hK K
  refine wp_seq_k fun K hK => ?_
  refine wp_seq_k fun K2 hK2 => ?_
  refine wp_region_lit ?_
  refine seg ha 2 [(0, .slice ao1 a0.length cap1), (4, .bool ao1.isNone)] (by kernel_rfl) fun a ha => ?_
  refine hK2 _ _ ?_; clear hK2 K2
  refine cnd ha rfl (fun hc => ?_) (fun hc => ?_)
  · refine wp_seq_k fun K2 hK2 => ?_
    refine wp_region_lit ?_
    refine seg ha 1 [(2, .slice none 0 0)] (by kernel_rfl) fun a ha => ?_
    refine hK2 _ _ ?_; clear hK2 K2
    refine wp_ret ?_
    have hx : a0 = [] := by
      rcases f1 with ⟨_, _, h | ⟨g, o, cur, fr, e, _⟩⟩
      · exact h
      · subst e; simp at hc
    simp only [Exit.then]
    refine rt1 ha rfl rfl ?_
    exact ⟨none, 0, by rw [hx]; rfl, by rw [hx]; exact Own.nil, (fun _ h => nomatch h), Chg.refl _ _, hM⟩
  · refine wp_skip ?_
    refine hK _ _ ?_; clear hK K
    refine wp_seq_k fun K hK => ?_
    refine wp_region_lit ?_
    refine bsl (vals := []) (T := 5) ha rfl [] (fun w => by kernel_rfl) rfl rfl rfl fun a w1 g hN ha => ?_
    refine seg ha 1 [(0, .slice ao1 a0.length cap1), (5, .slice (some ⟨g, 0, none⟩) 0 0), (6, .slice ao1 a0.length cap1)] (by kernel_rfl) fun a ha => ?_
    have hO : Own (rInt .u8) 5 w1 ([g] ++ M) (some ⟨g, 0, none⟩) 0 [] := hN.own rfl (Nat.zero_le _)
    have h1 : RSl (rInt .u8) 5 w1 ([g] ++ M) ao1 cap1 a0 := f1.chg hN.chg (Ok.nil _ _) (Ok.app (hN.ok _) (Ok.refl _ _))
    refine app (r := rInt .u8) (xs := []) ha (ElemT.mk' (bytes := 1) (by kernel_rfl)) rfl rfl rfl rfl rfl hO h1.src (by simpa using hb) (by decide) fun a w2 ao2 cap2 hO2 hc2 hok hlt ha => ?_
    refine seg ha 1 [(2, .slice ao2 ([] ++ a0).length cap2)] (by kernel_rfl) fun a ha => ?_
    refine hK _ _ ?_; clear hK K
    refine wp_ret ?_
    refine rt1 ha rfl rfl ⟨ao2, cap2, rfl, ?_, ?_, ?_, ?_⟩
    · exact hO2.chg (Chg.refl [] _) (Ok.nil _ _) (Ok.app (fun g hg => .inl (ml hg)) (fun g hg => .inl (mr (mr hg)))) (fun _ _ hh => nomatch hh) (fun g hg => ml hg)
    · intro x hx
      rcases hok x hx with h | h
      · simp [blkL] at h; subst h; exact hN.ge
      · exact Nat.le_trans hN.chg.size h
    · exact hN.chg.trans hc2 (Ok.one (.inr hN.ge))
    · exact MS.app hlt ((hM.chg hN.chg).chg hc2)

def cursor_Put.l0 (a1 : Int) : Nat → (List Int) → Int → Option (List Int)
  | 0, _, _ => none
  | kk + 1, x20, x21 => (if (decide (x21 ≥ (0 : Int))) = true then (if 0 ≤ x21 then (if (x20.length + ([IntKind.u8.wrap (Int.fdiv a1 (2 ^ (min (Int.toNat x21) IntKind.i64.bits)))] : List Int).length) * 1 ≤ 140737488355328 then cursor_Put.l0 a1 kk (x20 ++ ([IntKind.u8.wrap (Int.fdiv a1 (2 ^ (min (Int.toNat x21) IntKind.i64.bits)))] : List Int)) (IntKind.i64.wrap (x21 - (8 : Int))) else none) else none) else some (x20 : List Int))
def cursor_Put.f (k : Nat) (a0 : List Int) (a1 : Int) (a2 : Int) : Option (List Int × Int) := (if (if (decide (a2 < (1 : Int))) = true then true else (decide (a2 > (4 : Int)))) = true then some ((([] : List Int) : List Int), ((1 : Int) : Int)) else ((if (decide (a1 < (0 : Int))) = true then some (true : Bool) else (if 0 ≤ (IntKind.i64.wrap ((8 : Int) * a2)) then some ((Int.fdiv a1 (2 ^ (min (Int.toNat (IntKind.i64.wrap ((8 : Int) * a2))) IntKind.i64.bits))) != (0 : Int) : Bool) else none))).bind fun s9 => (if s9 = true then some ((([] : List Int) : List Int), ((5 : Int) : Int)) else (bytes_Clone.f a0).bind fun t14 => (cursor_Put.l0 a1 k t14 (IntKind.i64.wrap ((8 : Int) * (IntKind.i64.wrap (a2 - (1 : Int)))))).bind fun s18 => some ((s18 : List Int), ((0 : Int) : Int))))
set_option maxRecDepth 100000 in
theorem cursor_Put.walk (w : World) (M : List Nat) (hM : MS M w) (a0 : List Int) (ao1 : Option Addr) (cap1 : Nat) (f1 : RSl (rInt .u8) 5 w M ao1 cap1 a0) (a1 : Int) (a2 : Int) (k : Nat) (r : List Int × Int) (H : cursor_Put.f k a0 a1 a2 = some r) :
    To Try.prog 31 [.slice ao1 a0.length cap1, .int .i64 a1, .int .i64 a2] w fun v w' => ∃ (ao39 : Option Addr) (cap39 : Nat), v = .tuple #[.slice ao39 r.1.length cap39, .int .i64 r.2] ∧ (Own (rInt .u8) 5 w' (blkL ao39 ++ (M)) ao39 cap39 r.1) ∧ (∀ x ∈ blkL ao39, w.heap.size ≤ x) ∧ Chg [] w w' ∧ MS (blkL ao39 ++ (M)) w' := by
 unfold cursor_Put.f at H
 refine ent Try.func31 rfl [(0, .slice ao1 a0.length cap1), (1, .int .i64 a1), (2, .int .i64 a2)] rfl (by rfl) fun a ha => ?_
 have hC : Chg [] w w := Chg.refl _ _
 refine wp_seq_k fun K2 hK2 => ?_
 refine wp_region_lit ?_
 refine seg ha 2 [(0, .slice ao1 a0.length cap1), (1, .int .i64 a1), (2, .int .i64 a2)] (by kernel_rfl) fun a ha => ?_
 refine hK2 _ _ ?_; try clear hK2 K2
 refine wp_seq_k fun K3 hK3 => ?_
 refine wp_block ?_
 refine wp_seq_k fun K4 hK4 => ?_
 refine wp_region_lit ?_
 refine seg ha 7 [(0, .slice ao1 a0.length cap1), (1, .int .i64 a1), (2, .int .i64 a2), (10, .bool (if (decide (a2 < (1 : Int))) = true then true else (decide (a2 > (4 : Int)))))] (by kernel_rfl) fun a ha => ?_
 refine hK4 _ _ ?_; try clear hK4 K4
 refine cnd ha rfl (fun hc5 => ?_) (fun hc5 => ?_)
 ·have H := ite_t hc5 H
  refine wp_seq_k fun K6 hK6 => ?_
  refine wp_region_lit ?_
  refine seg ha 2 [(6, .slice none 0 0), (7, .int .i64 (1 : Int))] (by kernel_rfl) fun a ha => ?_
  refine hK6 _ _ ?_; try clear hK6 K6
  refine wp_ret ?_
  try simp only [Exit.then, Exit.inBlock]
  have p_z7_M : ∀ x ∈ blkL none, x ∉ M := fun x hx hy => absurd (hM x (hy)) (Nat.not_lt.2 ((fun _ h => nomatch h) x hx))
  have e_z7 : ∀ x ∈ blkL none, w.heap.size ≤ x := fun x hx => Nat.le_trans hC.size ((fun _ h => nomatch h) x hx)
  have hM : MS (blkL none ++ (M)) w := (MS.app (fun _ h => nomatch h) (hM.chg (Chg.refl [] _)))
  have hC := hC.trans (Chg.refl [] _) (Ok.nil _ _)
  obtain rfl := Option.some.inj H
  refine rt2 ha rfl rfl rfl ?_
  exact ⟨none, 0, rfl, Own.nil, e_z7, hC, hM⟩
 ·have H := ite_f hc5 H
  refine wp_seq_k fun K8 hK8 => ?_
  refine wp_region_lit ?_
  obtain ⟨s9, H9, H⟩ := bind_some H
  have J9 : ∀ (a : Act) (w9 : World), Has a Try.f31.ntmps [(0, .slice ao1 a0.length cap1), (1, .int .i64 a1), (2, .int .i64 a2), (17, .bool s9)] → (RSl (rInt .u8) 5 w9 (M) ao1 cap1 a0) → (Chg [] w w9) → (MS (M) w9) → K8 a w9 := by
   intro a w9 ha f1 hC hM
   refine hK8 _ _ ?_; try clear hK8 K8
   refine cnd ha rfl (fun hc10 => ?_) (fun hc10 => ?_)
   ·have H := ite_t hc10 H
    refine wp_seq_k fun K11 hK11 => ?_
    refine wp_region_lit ?_
    refine seg ha 2 [(6, .slice none 0 0), (7, .int .i64 (5 : Int))] (by kernel_rfl) fun a ha => ?_
    refine hK11 _ _ ?_; try clear hK11 K11
    refine wp_ret ?_
    try simp only [Exit.then, Exit.inBlock]
    have p_z12_M : ∀ x ∈ blkL none, x ∉ M := fun x hx hy => absurd (hM x (hy)) (Nat.not_lt.2 ((fun _ h => nomatch h) x hx))
    have e_z12 : ∀ x ∈ blkL none, w.heap.size ≤ x := fun x hx => Nat.le_trans hC.size ((fun _ h => nomatch h) x hx)
    have hM : MS (blkL none ++ (M)) w9 := (MS.app (fun _ h => nomatch h) (hM.chg (Chg.refl [] _)))
    have hC := hC.trans (Chg.refl [] _) (Ok.nil _ _)
    obtain rfl := Option.some.inj H
    refine rt2 ha rfl rfl rfl ?_
    exact ⟨none, 0, rfl, Own.nil, e_z12, hC, hM⟩
   ·have H := ite_f hc10 H
    refine wp_skip ?_
    refine hK3 _ _ ?_; try clear hK3 K3
    refine wp_seq_k fun K13 hK13 => ?_
    refine wp_region_lit ?_
    refine seg ha 1 [(1, .int .i64 a1), (2, .int .i64 a2), (27, .slice ao1 a0.length cap1)] (by kernel_rfl) fun a ha => ?_
    obtain ⟨t14, H14, H⟩ := bind_some H
    refine cl ha (by rfl) (by kernel_rfl) (by rfl) (by rfl) (by rfl) (bytes_Clone.walk w9 _ hM a0 ao1 cap1 f1 _ H14) ?_
    rintro _ w14 ⟨ao15, cap15, rfl, f15, ne_i15, hc14, hMn⟩ a ha
    have o1 : Ok [] (M) w9.heap.size := Ok.nil _ _
    have o2 : Ok (blkL ao15 ++ (M)) (M) w9.heap.size := (Ok.app (fun x h => .inr (ne_i15 x h)) (Ok.refl _ _))
    have f1 := f1.chg hc14 o1 o2
    have p_i15_M : ∀ x ∈ blkL ao15, x ∉ M := fun x hx hy => absurd (hM x (hy)) (Nat.not_lt.2 (ne_i15 x hx))
    have e_i15 : ∀ x ∈ blkL ao15, w.heap.size ≤ x := fun x hx => Nat.le_trans hC.size (ne_i15 x hx)
    have hM : MS (blkL ao15 ++ (M)) w14 := (MS.app (fun x h => hMn x (ml h)) (hM.chg hc14))
    have hC := hC.trans hc14 (Ok.nil _ _)
    refine seg ha 1 [(1, .int .i64 a1), (2, .int .i64 a2), (8, .slice ao15 t14.length cap15)] (by kernel_rfl) fun a ha => ?_
    refine hK13 _ _ ?_; try clear hK13 K13
    refine wp_seq_k fun K16 hK16 => ?_
    refine wp_seq_k fun K17 hK17 => ?_
    refine wp_region_lit ?_
    refine seg ha 4 [(1, .int .i64 a1), (8, .slice ao15 t14.length cap15), (9, .int .i64 (IntKind.i64.wrap ((8 : Int) * (IntKind.i64.wrap (a2 - (1 : Int))))))] (by kernel_rfl) fun a ha => ?_
    refine hK17 _ _ ?_; try clear hK17 K17
    refine wp_block ?_
    obtain ⟨s18, H18, H⟩ := bind_some H
    have J18 : ∀ (a : Act) (wx18 : World) (ao22 : Option Addr) (cap22 : Nat), Has a Try.f31.ntmps [(8, .slice ao22 s18.length cap22)] → (Own (rInt .u8) 5 wx18 (blkL ao22 ++ (M)) ao22 cap22 s18) → (∀ x ∈ blkL ao22, w.heap.size ≤ x) → (∀ x ∈ blkL ao22, x ∉ M) → (Chg [] w wx18) → (MS (blkL ao22 ++ (M)) wx18) → K16 a wx18 := by
     intro a wx18 ao22 cap22 ha f22 e_i22 p_i22_M hC hM
     refine hK16 _ _ ?_; try clear hK16 K16
     refine wp_seq_k fun K23 hK23 => ?_
     refine wp_region_lit ?_
     refine seg ha 3 [(6, .slice ao22 s18.length cap22), (7, .int .i64 (0 : Int))] (by kernel_rfl) fun a ha => ?_
     refine hK23 _ _ ?_; try clear hK23 K23
     refine wp_ret ?_
     try simp only [Exit.then, Exit.inBlock]
     obtain rfl := Option.some.inj H
     refine rt2 ha rfl rfl rfl ?_
     exact ⟨ao22, cap22, rfl, f22, e_i22, hC, hM⟩
    have Hc18 := H
    have H := H18
    refine wp_loop_ghost (fun kk a w18 => ∃ (x20 : List Int) (x21 : Int) (ao19 : Option Addr) (cap19 : Nat), cursor_Put.l0 a1 kk x20 x21 = some s18 ∧ Has a Try.f31.ntmps [(1, .int .i64 a1), (8, .slice ao19 x20.length cap19), (9, .int .i64 x21)] ∧ (Own (rInt .u8) 5 w18 (blkL ao19 ++ (M)) ao19 cap19 x20) ∧ (∀ x ∈ blkL ao19, w.heap.size ≤ x) ∧ (∀ x ∈ blkL ao19, x ∉ M) ∧ (Chg [] w w18) ∧ (MS (blkL ao19 ++ (M)) w18)) k ?_ ?_
    ·skip
     exact ⟨t14, IntKind.i64.wrap ((8 : Int) * (IntKind.i64.wrap (a2 - (1 : Int)))), ao15, cap15, H, (ha.sel (by kernel_rfl)), f15, e_i15, p_i15_M, hC, hM⟩
    ·rintro kk a w18 ⟨x20, x21, ao19, cap19, H, ha, f19, e_i19, p_i19_M, hC, hM⟩
     obtain _ | kk := kk
     ·exact nomatch (show none = some _ from H)
     rw [cursor_Put.l0] at H
     refine wp_seq_k fun K24 hK24 => ?_
     refine wp_seq_k fun K25 hK25 => ?_
     refine wp_region_lit ?_
     refine seg ha 2 [(1, .int .i64 a1), (8, .slice ao19 x20.length cap19), (9, .int .i64 x21), (33, .bool (decide (x21 ≥ (0 : Int))))] (by kernel_rfl) fun a ha => ?_
     refine hK25 _ _ ?_; try clear hK25 K25
     refine cnd ha rfl (fun hc26 => ?_) (fun hc26 => ?_)
     ·have H := ite_t hc26 H
      refine wp_skip ?_
      refine hK24 _ _ ?_; try clear hK24 K24
      refine wp_seq_k fun K27 hK27 => ?_
      refine wp_block ?_
      refine wp_region_lit ?_
      refine seg ha 3 [(1, .int .i64 a1), (9, .int .i64 x21), (36, .slice ao19 x20.length cap19), (37, .int .i64 a1), (38, .int .i64 x21)] (by kernel_rfl) fun a ha => ?_
      obtain ⟨hx28, H⟩ := ite_some H
      refine hop (v := .int .i64 (Int.fdiv a1 (2 ^ (min (Int.toNat x21) IntKind.i64.bits)))) (w' := w18) ha rfl rfl rfl (shr_run ha (by rfl) (by rfl) hx28 _) fun a ha => ?_
      refine seg ha 1 [(1, .int .i64 a1), (9, .int .i64 x21), (36, .slice ao19 x20.length cap19), (40, .int .u8 (IntKind.u8.wrap (Int.fdiv a1 (2 ^ (min (Int.toNat x21) IntKind.i64.bits)))))] (by kernel_rfl) fun a ha => ?_
      refine bsl (vals := ([.int .u8 (IntKind.u8.wrap (Int.fdiv a1 (2 ^ (min (Int.toNat x21) IntKind.i64.bits))))] : List Value)) (T := 5) ha rfl (([.int .u8 (IntKind.u8.wrap (Int.fdiv a1 (2 ^ (min (Int.toNat x21) IntKind.i64.bits))))] : List Value) ++ ([] : List Value)) (fun w => by kernel_rfl) rfl rfl rfl fun a w29 g30 hN31 ha => ?_
      have o1 : Ok [] (blkL ao19 ++ (M)) w18.heap.size := Ok.nil _ _
      have o2 : Ok ([g30] ++ (blkL ao19 ++ (M))) (blkL ao19 ++ (M)) w18.heap.size := (Ok.app (hN31.ok _) (Ok.refl _ _))
      have f19 := f19.chg hN31.chg o1 o2 (fun _ _ h => nomatch h) (fun _ h => mr (ml h))
      have p_i32_i19 : ∀ x ∈ [g30], x ∉ (blkL ao19) := fun x hx hy => absurd (hM x (ml hy)) (Nat.not_lt.2 ((hN31.ge1) x hx))
      have p_i32_M : ∀ x ∈ [g30], x ∉ M := fun x hx hy => absurd (hM x (mr (hy))) (Nat.not_lt.2 ((hN31.ge1) x hx))
      have e_i32 : ∀ x ∈ [g30], w.heap.size ≤ x := fun x hx => Nat.le_trans hC.size ((hN31.ge1) x hx)
      have hM : MS ([g30] ++ (blkL ao19 ++ (M))) w29 := (MS.app hN31.ms (hM.chg hN31.chg))
      have hC := hC.trans hN31.chg (Ok.nil _ _)
      have f33 : Own (rInt .u8) 5 w29 ([g30] ++ (blkL ao19 ++ (M))) (some ⟨g30, 0, none⟩) 1 ([IntKind.u8.wrap (Int.fdiv a1 (2 ^ (min (Int.toNat x21) IntKind.i64.bits)))] : List Int) := hN31.own ⟨([.int .u8 (IntKind.u8.wrap (Int.fdiv a1 (2 ^ (min (Int.toNat x21) IntKind.i64.bits))))] : List Value), _, rfl, rfl, rfl⟩ (Nat.le_of_ble_eq_true rfl)
      obtain ⟨hx34, H⟩ := ite_some H
      refine app (r := (rInt .u8)) (xs := x20) (ys := ([IntKind.u8.wrap (Int.fdiv a1 (2 ^ (min (Int.toNat x21) IntKind.i64.bits)))] : List Int)) ha (ElemT.mk' (bytes := 1) (by kernel_rfl)) rfl rfl rfl rfl rfl f19 f33.src hx34 (by decide) fun a w35 ao36 cap36 hO36 hc36 hk36 hl36 ha => ?_
      have o1 : Ok (blkL ao19) ([g30] ++ (blkL ao19 ++ (M))) w29.heap.size := (fun _ h => .inl (mr (ml h)))
      have o2 : Ok (blkL ao36 ++ ([g30] ++ (M))) ([g30] ++ (blkL ao19 ++ (M))) w29.heap.size := (Ok.app (Ok.to hk36 (fun _ h => mr (ml h))) (Ok.app (fun _ h => .inl (ml h)) (fun _ h => .inl (mr (mr (h))))))
      have f33 := f33.chg hc36 o1 o2 p_i32_i19 (fun _ h => mr (ml h))
      have p_i36_i32 : ∀ x ∈ blkL ao36, x ∉ ([g30]) := fun x hx hy => (hk36 x hx).elim (fun h => (fun x hx hy => p_i32_i19 x hy hx) x h hy) (fun h => absurd (hM x (ml hy)) (Nat.not_lt.2 h))
      have p_i36_M : ∀ x ∈ blkL ao36, x ∉ M := fun x hx hy => (hk36 x hx).elim (fun h => p_i19_M x h hy) (fun h => absurd (hM x (mr (mr (hy)))) (Nat.not_lt.2 h))
      have e_i36 : ∀ x ∈ blkL ao36, w.heap.size ≤ x := fun x hx => (hk36 x hx).elim (e_i19 x) (Nat.le_trans hC.size)
      have hM : MS (blkL ao36 ++ ([g30] ++ (M))) w35 := (MS.app hl36 (MS.app (fun x h => hM.chg hc36 x (ml h)) (fun x h => hM.chg hc36 x (mr (mr (h))))))
      have hC := hC.trans hc36 (fun x h => .inr (e_i19 x h))
      have f36 := hO36.chg (M' := blkL ao36 ++ ([g30] ++ (M))) (Chg.refl [] _) (Ok.nil _ _) (Ok.app (fun _ h => .inl (ml h)) (Ok.to (Ok.app (fun _ h => .inl (ml h)) (fun _ h => .inl (mr (mr (h))))) (fun _ h => mr h))) (fun _ _ h => nomatch h) (fun _ h => ml h)
      refine seg ha 1 [(1, .int .i64 a1), (8, .slice ao36 (x20 ++ ([IntKind.u8.wrap (Int.fdiv a1 (2 ^ (min (Int.toNat x21) IntKind.i64.bits)))] : List Int)).length cap36), (9, .int .i64 x21)] (by kernel_rfl) fun a ha => ?_
      refine hK27 _ _ ?_; try clear hK27 K27
      refine wp_region_lit ?_
      refine seg ha 3 [(1, .int .i64 a1), (8, .slice ao36 (x20 ++ ([IntKind.u8.wrap (Int.fdiv a1 (2 ^ (min (Int.toNat x21) IntKind.i64.bits)))] : List Int)).length cap36), (9, .int .i64 (IntKind.i64.wrap (x21 - (8 : Int))))] (by kernel_rfl) fun a ha => ?_
      have o1 : Ok [] (blkL ao36 ++ ([g30] ++ (M))) w35.heap.size := Ok.nil _ _
      have o2 : Ok (blkL ao36 ++ (M)) (blkL ao36 ++ ([g30] ++ (M))) w35.heap.size := (Ok.app (fun _ h => .inl (ml h)) (fun _ h => .inl (mr (mr (h)))))
      have f36 := f36.chg (Chg.refl [] _) o1 o2 (fun _ _ h => nomatch h) (fun _ h => ml h)
      have hM : MS (blkL ao36 ++ (M)) w35 := (MS.app (fun x h => hM.chg (Chg.refl [] _) x (ml h)) (fun x h => hM.chg (Chg.refl [] _) x (mr (mr (h)))))
      have hC := hC.trans (Chg.refl [] _) (Ok.nil _ _)
      exact ⟨kk, Nat.lt_succ_self _, ⟨(x20 ++ ([IntKind.u8.wrap (Int.fdiv a1 (2 ^ (min (Int.toNat x21) IntKind.i64.bits)))] : List Int)), IntKind.i64.wrap (x21 - (8 : Int)), ao36, cap36, H, (ha.sel (by kernel_rfl)), f36, e_i36, p_i36_M, hC, hM⟩⟩
     ·have H := ite_f hc26 H
      refine wp_exit ?_
      simp only [Exit.then, Exit.inBlock, ↓reduceIte, Nat.reduceEqDiff]
      obtain rfl := Option.some.inj H
      exact J18 _ _ ao19 cap19 (ha.sel (by kernel_rfl)) f19 e_i19 p_i19_M hC hM
  have H := H9
  refine seg ha 3 [(20, .bool (decide (a1 < (0 : Int)))), (0, .slice ao1 a0.length cap1), (1, .int .i64 a1), (2, .int .i64 a2)] (by kernel_rfl) fun a ha => ?_
  rcases Bool.eq_false_or_eq_true (decide (a1 < (0 : Int))) with hb37 | hb37
  ·have ha := ha.lit hb37
   have H := ite_t hb37 H
   refine sgh ha 7 [1, 1, 1, 1, 1, 3, 0] [(0, .slice ao1 a0.length cap1), (1, .int .i64 a1), (2, .int .i64 a2), (17, .bool true)] (by kernel_rfl) fun a ha => ?_
   obtain rfl := Option.some.inj H
   exact J9 _ _ (ha.sel (by kernel_rfl)) f1 hC hM
  ·have ha := ha.lit hb37
   have H := ite_f hb37 H
   refine sgh ha 3 [2, 2, 2] [(0, .slice ao1 a0.length cap1), (1, .int .i64 a1), (2, .int .i64 a2), (20, .bool false), (21, .int .i64 a1), (23, .int .i64 (IntKind.i64.wrap ((8 : Int) * a2)))] (by kernel_rfl) fun a ha => ?_
   obtain ⟨hx38, H⟩ := ite_some H
   refine hop (v := .int .i64 (Int.fdiv a1 (2 ^ (min (Int.toNat (IntKind.i64.wrap ((8 : Int) * a2))) IntKind.i64.bits)))) (w' := w) ha rfl rfl rfl (shr_run ha (by rfl) (by rfl) hx38 _) fun a ha => ?_
   refine sgh ha 3 [2, 4, 0] [(0, .slice ao1 a0.length cap1), (1, .int .i64 a1), (2, .int .i64 a2), (17, .bool ((Int.fdiv a1 (2 ^ (min (Int.toNat (IntKind.i64.wrap ((8 : Int) * a2))) IntKind.i64.bits))) != (0 : Int)))] (by kernel_rfl) fun a ha => ?_
   obtain rfl := Option.some.inj H
   exact J9 _ _ (ha.sel (by kernel_rfl)) f1 hC hM
def label_Bytes.f (k : Nat) (a0 : Int) (a1 : Bool) : Option (List Int × Int) := (if (if (decide (a0 < (0 : Int))) = true then true else (decide (a0 > (1048575 : Int)))) = true then some ((([] : List Int) : List Int), ((5 : Int) : Int)) else ((if a1 = true then some (IntKind.i64.wrap (BitVec.ofInt IntKind.i64.bits (IntKind.i64.wrap (a0 * 2 ^ (min (4 : Int).toNat IntKind.i64.bits))) ||| BitVec.ofInt IntKind.i64.bits (1 : Int)).toNat : Int) else some (IntKind.i64.wrap (a0 * 2 ^ (min (4 : Int).toNat IntKind.i64.bits)) : Int))).bind fun s9 => (cursor_Put.f k ([] : List Int) s9 (3 : Int)).bind fun t11 => some ((t11.1 : List Int), (t11.2 : Int)))
set_option maxRecDepth 100000 in
theorem label_Bytes.walk (w : World) (M : List Nat) (hM : MS M w) (a0 : Int) (a1 : Bool) (k : Nat) (r : List Int × Int) (H : label_Bytes.f k a0 a1 = some r) :
    To Try.prog 24 [.int .i64 a0, .bool a1] w fun v w' => ∃ (ao15 : Option Addr) (cap15 : Nat), v = .tuple #[.slice ao15 r.1.length cap15, .int .i64 r.2] ∧ (Own (rInt .u8) 5 w' (blkL ao15 ++ (M)) ao15 cap15 r.1) ∧ (∀ x ∈ blkL ao15, w.heap.size ≤ x) ∧ Chg [] w w' ∧ MS (blkL ao15 ++ (M)) w' := by
 unfold label_Bytes.f at H
 refine ent Try.func24 rfl [(0, .int .i64 a0), (1, .bool a1)] rfl (by rfl) fun a ha => ?_
 have hC : Chg [] w w := Chg.refl _ _
 refine wp_seq_k fun K1 hK1 => ?_
 refine wp_region_lit ?_
 refine seg ha 2 [(0, .int .i64 a0), (1, .bool a1)] (by kernel_rfl) fun a ha => ?_
 refine hK1 _ _ ?_; try clear hK1 K1
 refine wp_seq_k fun K2 hK2 => ?_
 refine wp_seq_k fun K3 hK3 => ?_
 refine wp_region_lit ?_
 refine seg ha 6 [(0, .int .i64 a0), (1, .bool a1), (12, .bool (if (decide (a0 < (0 : Int))) = true then true else (decide (a0 > (1048575 : Int)))))] (by kernel_rfl) fun a ha => ?_
 refine hK3 _ _ ?_; try clear hK3 K3
 refine cnd ha rfl (fun hc4 => ?_) (fun hc4 => ?_)
 ·have H := ite_t hc4 H
  refine wp_seq_k fun K5 hK5 => ?_
  refine wp_region_lit ?_
  refine seg ha 2 [(4, .slice none 0 0), (5, .int .i64 (5 : Int))] (by kernel_rfl) fun a ha => ?_
  refine hK5 _ _ ?_; try clear hK5 K5
  refine wp_ret ?_
  try simp only [Exit.then, Exit.inBlock]
  have p_z6_M : ∀ x ∈ blkL none, x ∉ M := fun x hx hy => absurd (hM x (hy)) (Nat.not_lt.2 ((fun _ h => nomatch h) x hx))
  have e_z6 : ∀ x ∈ blkL none, w.heap.size ≤ x := fun x hx => Nat.le_trans hC.size ((fun _ h => nomatch h) x hx)
  have hM : MS (blkL none ++ (M)) w := (MS.app (fun _ h => nomatch h) (hM.chg (Chg.refl [] _)))
  have hC := hC.trans (Chg.refl [] _) (Ok.nil _ _)
  obtain rfl := Option.some.inj H
  refine rt2 ha rfl rfl rfl ?_
  exact ⟨none, 0, rfl, Own.nil, e_z6, hC, hM⟩
 ·have H := ite_f hc4 H
  refine wp_skip ?_
  refine hK2 _ _ ?_; try clear hK2 K2
  refine wp_seq_k fun K7 hK7 => ?_
  refine wp_region_lit ?_
  refine seg ha 3 [(1, .bool a1), (6, .int .i64 (IntKind.i64.wrap (a0 * 2 ^ (min (4 : Int).toNat IntKind.i64.bits))))] (by kernel_rfl) fun a ha => ?_
  refine hK7 _ _ ?_; try clear hK7 K7
  refine wp_seq_k fun K8 hK8 => ?_
  obtain ⟨s9, H9, H⟩ := bind_some H
  have J9 : ∀ (a : Act) (w9 : World), Has a Try.f24.ntmps [(6, .int .i64 s9)] → (Chg [] w w9) → (MS (M) w9) → K8 a w9 := by
   intro a w9 ha hC hM
   refine hK8 _ _ ?_; try clear hK8 K8
   refine wp_seq_k fun K10 hK10 => ?_
   refine wp_region_lit ?_
   refine seg ha 1 [(18, .int .i64 s9)] (by kernel_rfl) fun a ha => ?_
   obtain ⟨t11, H11, H⟩ := bind_some H
   refine cl ha (by rfl) (by kernel_rfl) (by rfl) (by rfl) (by rfl) (cursor_Put.walk w9 _ hM ([] : List Int) none 0 (RSl.nil (Nat.zero_le _)) s9 (3 : Int) k _ H11) ?_
   rintro _ w11 ⟨ao12, cap12, rfl, f12, ne_i12, hc11, hMn⟩ a ha
   have p_i12_M : ∀ x ∈ blkL ao12, x ∉ M := fun x hx hy => absurd (hM x (hy)) (Nat.not_lt.2 (ne_i12 x hx))
   have e_i12 : ∀ x ∈ blkL ao12, w.heap.size ≤ x := fun x hx => Nat.le_trans hC.size (ne_i12 x hx)
   have hM : MS (blkL ao12 ++ (M)) w11 := (MS.app (fun x h => hMn x (ml h)) (hM.chg hc11))
   have hC := hC.trans hc11 (Ok.nil _ _)
   refine seg ha 4 [(4, .slice ao12 t11.1.length cap12), (5, .int .i64 t11.2)] (by kernel_rfl) fun a ha => ?_
   refine hK10 _ _ ?_; try clear hK10 K10
   refine wp_ret ?_
   try simp only [Exit.then, Exit.inBlock]
   obtain rfl := Option.some.inj H
   refine rt2 ha rfl rfl rfl ?_
   exact ⟨ao12, cap12, rfl, f12, e_i12, hC, hM⟩
  have H := H9
  refine wp_seq_k fun K13 hK13 => ?_
  refine wp_region_lit ?_
  refine seg ha 1 [(6, .int .i64 (IntKind.i64.wrap (a0 * 2 ^ (min (4 : Int).toNat IntKind.i64.bits)))), (15, .bool a1)] (by kernel_rfl) fun a ha => ?_
  refine hK13 _ _ ?_; try clear hK13 K13
  refine cnd ha rfl (fun hc14 => ?_) (fun hc14 => ?_)
  ·have H := ite_t hc14 H
   refine wp_region_lit ?_
   refine seg ha 3 [(6, .int .i64 (IntKind.i64.wrap (BitVec.ofInt IntKind.i64.bits (IntKind.i64.wrap (a0 * 2 ^ (min (4 : Int).toNat IntKind.i64.bits))) ||| BitVec.ofInt IntKind.i64.bits (1 : Int)).toNat))] (by kernel_rfl) fun a ha => ?_
   obtain rfl := Option.some.inj H
   exact J9 _ _ (ha.sel (by kernel_rfl)) hC hM
  ·have H := ite_f hc14 H
   refine wp_skip ?_
   obtain rfl := Option.some.inj H
   exact J9 _ _ (ha.sel (by kernel_rfl)) hC hM
structure PoolS where
  first : Int
  count : Int
  labels : List (List UInt8 × Int)
  owners : List (Int × List UInt8)
def PoolAt (w : World) (g : Nat) (L : List Nat) (x : PoolS) : Prop :=
  ∃ g1 g2, L = [g, g1, g2] ∧ g ≠ g1 ∧ g ≠ g2 ∧ g1 ≠ g2 ∧ Box w g [.int .i64 x.first, .int .i64 x.count, .map (some g1), .map (some g2)] ∧ MapR kS (kI .i64) w g1 x.labels ∧ MapR (kI .i64) kS w g2 x.owners
theorem PoolAt.chg {w w' : World} {g : Nat} {L gs : List Nat} {x : PoolS} (h : PoolAt w g L x) (hc : Chg gs w w') (hn : ∀ y ∈ L, y ∉ gs) : PoolAt w' g L x := by
  obtain ⟨g1, g2, rfl, n1, n2, n3, hB, h1, h2⟩ := h
  exact ⟨g1, g2, rfl, n1, n2, n3, hB.chg hc (hn g (by simp)), h1.chg hc (hn g1 (by simp)), h2.chg hc (hn g2 (by simp))⟩
theorem u54 : Try.prog.underlying 54 = some (.map 9 3) := by kernel_rfl
theorem u55 : Try.prog.underlying 55 = some (.map 3 9) := by kernel_rfl
theorem K9 : MKey Try.prog 9 kS := mkey_str (by kernel_rfl)
theorem K3 : MKey Try.prog 3 (kI .i64) := mkey_int (by kernel_rfl)
def Pool_Count.f (x : PoolS) : Option Int := some (x.labels.length : Int)
theorem Pool_Count.walk (w : World) (M : List Nat) (hM : MS M w) (g : Nat) (L : List Nat) (x : PoolS) (f : PoolAt w g L x) (hL : ∀ y ∈ L, y ∈ M) (r : Int) (H : Pool_Count.f x = some r) :
    To Try.prog 11 [.pointer (some ⟨g, 0, none⟩)] w fun v w' => v = .int .i64 r ∧ Chg [] w w' ∧ MS M w' := by
  unfold Pool_Count.f at H
  obtain rfl := Option.some.inj H
  obtain ⟨g1, g2, rfl, n1, n2, n3, hB, h1, h2⟩ := f
  refine ent Try.func11 rfl [(0, .pointer (some ⟨g, 0, none⟩))] rfl (by rfl) fun a ha => ?_
  refine wp_seq_k fun K hK => ?_
  refine wp_region_lit ?_
  refine seg ha 1 [(0, .pointer (some ⟨g, 0, none⟩))] (by kernel_rfl) fun a ha => ?_
  refine hK _ _ ?_; clear hK K
  refine wp_seq_k fun K hK => ?_
  refine wp_region_lit ?_
  refine seg ha 3 [(5, .pointer (some ⟨g, 2, none⟩))] (by kernel_rfl) fun a ha => ?_
  refine ld (v := .map (some g1)) ha rfl (by kernel_rfl) rfl rfl rfl (hB.cell' (o := 2) rfl rfl) fun a ha => ?_
  refine mln ha u54 rfl rfl rfl rfl h1 fun a ha => ?_
  refine seg ha 1 [(2, .int .i64 (x.labels.length : Int))] (by kernel_rfl) fun a ha => ?_
  refine hK _ _ ?_; clear hK K
  refine wp_ret ?_
  exact rt1 ha rfl rfl ⟨rfl, Chg.refl _ _, hM⟩
def Pool_Of.f (x : PoolS) (o : List UInt8) : Option (Int × Bool) := some ((mget x.labels o).getD 0, (mget x.labels o).isSome)
theorem Pool_Of.walk (w : World) (M : List Nat) (hM : MS M w) (g : Nat) (L : List Nat) (x : PoolS) (f : PoolAt w g L x) (hL : ∀ y ∈ L, y ∈ M) (o : List UInt8) (r : Int × Bool) (H : Pool_Of.f x o = some r) :
    To Try.prog 17 [.pointer (some ⟨g, 0, none⟩), .string (bstr o)] w fun v w' => v = .tuple #[.int .i64 r.1, .bool r.2] ∧ Chg [] w w' ∧ MS M w' := by
  unfold Pool_Of.f at H
  obtain rfl := Option.some.inj H
  obtain ⟨g1, g2, rfl, n1, n2, n3, hB, h1, h2⟩ := f
  refine ent Try.func17 rfl [(0, .pointer (some ⟨g, 0, none⟩)), (1, .string (bstr o))] rfl (by rfl) fun a ha => ?_
  refine wp_seq_k fun K hK => ?_
  refine wp_region_lit ?_
  refine seg ha 2 [(0, .pointer (some ⟨g, 0, none⟩)), (1, .string (bstr o))] (by kernel_rfl) fun a ha => ?_
  refine hK _ _ ?_; clear hK K
  refine wp_seq_k fun K hK => ?_
  refine wp_region_lit ?_
  refine seg ha 3 [(1, .string (bstr o)), (11, .pointer (some ⟨g, 2, none⟩))] (by kernel_rfl) fun a ha => ?_
  refine ld (v := .map (some g1)) ha rfl (by kernel_rfl) rfl rfl rfl (hB.cell' (o := 2) rfl rfl) fun a ha => ?_
  refine seg ha 1 [(12, .map (some g1)), (13, .string (bstr o))] (by kernel_rfl) fun a ha => ?_
  refine mlk (k := o) (z := (0 : Int)) ha u54 K9 rfl rfl (fun w => by kernel_rfl) rfl rfl rfl h1 fun a ha => ?_
  refine seg ha 5 [(6, .int .i64 ((mget x.labels o).getD 0)), (7, .bool (mget x.labels o).isSome)] (by kernel_rfl) fun a ha => ?_
  refine hK _ _ ?_; clear hK K
  refine wp_seq_k fun K hK => ?_
  refine wp_region_lit ?_
  refine seg ha 4 [(4, .int .i64 ((mget x.labels o).getD 0)), (5, .bool (mget x.labels o).isSome)] (by kernel_rfl) fun a ha => ?_
  refine hK _ _ ?_; clear hK K
  refine wp_ret ?_
  exact rt2 ha rfl rfl rfl ⟨rfl, Chg.refl _ _, hM⟩
def Pool_Owner.f (x : PoolS) (n : Int) : Option (List UInt8 × Bool) := some ((mget x.owners n).getD [], (mget x.owners n).isSome)
theorem Pool_Owner.walk (w : World) (M : List Nat) (hM : MS M w) (g : Nat) (L : List Nat) (x : PoolS) (f : PoolAt w g L x) (hL : ∀ y ∈ L, y ∈ M) (n : Int) (r : List UInt8 × Bool) (H : Pool_Owner.f x n = some r) :
    To Try.prog 19 [.pointer (some ⟨g, 0, none⟩), .int .i64 n] w fun v w' => v = .tuple #[.string (bstr r.1), .bool r.2] ∧ Chg [] w w' ∧ MS M w' := by
  unfold Pool_Owner.f at H
  obtain rfl := Option.some.inj H
  obtain ⟨g1, g2, rfl, n1, n2, n3, hB, h1, h2⟩ := f
  refine ent Try.func19 rfl [(0, .pointer (some ⟨g, 0, none⟩)), (1, .int .i64 n)] rfl (by rfl) fun a ha => ?_
  refine wp_seq_k fun K hK => ?_
  refine wp_region_lit ?_
  refine seg ha 2 [(0, .pointer (some ⟨g, 0, none⟩)), (1, .int .i64 n)] (by kernel_rfl) fun a ha => ?_
  refine hK _ _ ?_; clear hK K
  refine wp_seq_k fun K hK => ?_
  refine wp_region_lit ?_
  refine seg ha 3 [(1, .int .i64 n), (11, .pointer (some ⟨g, 3, none⟩))] (by kernel_rfl) fun a ha => ?_
  refine ld (v := .map (some g2)) ha rfl (by kernel_rfl) rfl rfl rfl (hB.cell' (o := 3) rfl rfl) fun a ha => ?_
  refine seg ha 1 [(12, .map (some g2)), (13, .int .i64 n)] (by kernel_rfl) fun a ha => ?_
  refine mlk (k := n) (z := ([] : List UInt8)) ha u55 K3 rfl rfl (fun w => by kernel_rfl) rfl rfl rfl h2 fun a ha => ?_
  refine seg ha 5 [(6, .string (bstr ((mget x.owners n).getD []))), (7, .bool (mget x.owners n).isSome)] (by kernel_rfl) fun a ha => ?_
  refine hK _ _ ?_; clear hK K
  refine wp_seq_k fun K hK => ?_
  refine wp_region_lit ?_
  refine seg ha 4 [(4, .string (bstr ((mget x.owners n).getD []))), (5, .bool (mget x.owners n).isSome)] (by kernel_rfl) fun a ha => ?_
  refine hK _ _ ?_; clear hK K
  refine wp_ret ?_
  exact rt2 ha rfl rfl rfl ⟨rfl, Chg.refl _ _, hM⟩
def Pool_Clear.f (x : PoolS) : Option PoolS := some ⟨x.first, x.count, [], []⟩
theorem Pool_Clear.walk (w : World) (M : List Nat) (hM : MS M w) (g : Nat) (L : List Nat) (x : PoolS) (f : PoolAt w g L x) (hL : ∀ y ∈ L, y ∈ M) (r : PoolS) (H : Pool_Clear.f x = some r) :
    To Try.prog 12 [.pointer (some ⟨g, 0, none⟩)] w fun v w' => v = .tuple #[] ∧ PoolAt w' g L r ∧ Chg L w w' ∧ MS M w' := by
  unfold Pool_Clear.f at H
  obtain rfl := Option.some.inj H
  obtain ⟨g1, g2, rfl, n1, n2, n3, hB, h1, h2⟩ := f
  refine ent Try.func12 rfl [(0, .pointer (some ⟨g, 0, none⟩))] rfl (by rfl) fun a ha => ?_
  refine wp_seq_k fun K hK => ?_
  refine wp_region_lit ?_
  refine seg ha 3 [(0, .pointer (some ⟨g, 0, none⟩)), (4, .pointer (some ⟨g, 2, none⟩))] (by kernel_rfl) fun a ha => ?_
  refine ld (v := .map (some g1)) ha rfl (by kernel_rfl) rfl rfl rfl (hB.cell' (o := 2) rfl rfl) fun a ha => ?_
  refine mcl ha u54 rfl rfl h1 fun a w1 ha h1 c1 => ?_
  have hB := hB.chg c1 (by simp [n1])
  have h2 := h2.chg c1 (by simp [Ne.symm n3])
  refine wpl_end ?_
  have ha := ha.sel (env' := [(0, .pointer (some ⟨g, 0, none⟩))]) (by kernel_rfl)
  refine hK _ _ ?_; clear hK K
  refine wp_region_lit ?_
  refine seg ha 3 [(8, .pointer (some ⟨g, 3, none⟩))] (by kernel_rfl) fun a ha => ?_
  refine ld (v := .map (some g2)) ha rfl (by kernel_rfl) rfl rfl rfl (hB.cell' (o := 3) rfl rfl) fun a ha => ?_
  refine mcl ha u55 rfl rfl h2 fun a w2 ha h2 c2 => ?_
  have hB := hB.chg c2 (by simp [n2])
  have h1 := h1.chg c2 (by simp [n3])
  refine wpl_end ?_
  exact rt0 ha rfl ⟨rfl, ⟨g1, g2, rfl, n1, n2, n3, hB, h1, h2⟩, (c1.mono (gs' := [g, g1, g2]) (Ok.one (.inl (by simp)))).trans c2 (Ok.one (.inl (by simp))), (hM.chg c1).chg c2⟩
def Pool_Free.f (x : PoolS) (o : List UInt8) : Option (Bool × PoolS) :=
  if (mget x.labels o).isSome = true then some (true, ⟨x.first, x.count, mdel x.labels o, mdel x.owners ((mget x.labels o).getD 0)⟩) else some (false, x)
theorem Pool_Free.walk (w : World) (M : List Nat) (hM : MS M w) (g : Nat) (L : List Nat) (x : PoolS) (f : PoolAt w g L x) (hL : ∀ y ∈ L, y ∈ M) (o : List UInt8) (r : Bool × PoolS) (H : Pool_Free.f x o = some r) :
    To Try.prog 15 [.pointer (some ⟨g, 0, none⟩), .string (bstr o)] w fun v w' => v = .bool r.1 ∧ PoolAt w' g L r.2 ∧ Chg L w w' ∧ MS M w' := by
  unfold Pool_Free.f at H
  obtain ⟨g1, g2, rfl, n1, n2, n3, hB, h1, h2⟩ := f
  refine ent Try.func15 rfl [(0, .pointer (some ⟨g, 0, none⟩)), (1, .string (bstr o))] rfl (by rfl) fun a ha => ?_
  refine wp_seq_k fun K hK => ?_
  refine wp_region_lit ?_
  refine seg ha 1 [(0, .pointer (some ⟨g, 0, none⟩)), (1, .string (bstr o))] (by kernel_rfl) fun a ha => ?_
  refine hK _ _ ?_; clear hK K
  refine wp_seq_k fun K hK => ?_
  refine wp_region_lit ?_
  refine seg ha 3 [(0, .pointer (some ⟨g, 0, none⟩)), (1, .string (bstr o)), (10, .pointer (some ⟨g, 2, none⟩))] (by kernel_rfl) fun a ha => ?_
  refine ld (v := .map (some g1)) ha rfl (by kernel_rfl) rfl rfl rfl (hB.cell' (o := 2) rfl rfl) fun a ha => ?_
  refine seg ha 1 [(0, .pointer (some ⟨g, 0, none⟩)), (1, .string (bstr o)), (11, .map (some g1)), (12, .string (bstr o))] (by kernel_rfl) fun a ha => ?_
  refine mlk (k := o) (z := (0 : Int)) ha u54 K9 rfl rfl (fun w => by kernel_rfl) rfl rfl rfl h1 fun a ha => ?_
  refine seg ha 5 [(0, .pointer (some ⟨g, 0, none⟩)), (1, .string (bstr o)), (5, .int .i64 ((mget x.labels o).getD 0)), (6, .bool (mget x.labels o).isSome)] (by kernel_rfl) fun a ha => ?_
  refine hK _ _ ?_; clear hK K
  refine wp_seq_k fun K hK => ?_
  refine wp_seq_k fun K2 hK2 => ?_
  refine wp_region_lit ?_
  refine seg ha 1 [(0, .pointer (some ⟨g, 0, none⟩)), (1, .string (bstr o)), (5, .int .i64 ((mget x.labels o).getD 0)), (6, .bool (mget x.labels o).isSome), (16, .bool (mget x.labels o).isSome)] (by kernel_rfl) fun a ha => ?_
  refine hK2 _ _ ?_; clear hK2 K2
  have J : ∀ (a : Act) (w1 : World), Has a Try.f15.ntmps [(6, .bool r.1)] → PoolAt w1 g [g, g1, g2] r.2 → Chg [g, g1, g2] w w1 → MS M w1 → K a w1 := by
    intro a w1 ha hP hC hM
    refine hK _ _ ?_; clear hK K
    refine wp_seq_k fun K hK => ?_
    refine wp_region_lit ?_
    refine seg ha 2 [(4, .bool r.1)] (by kernel_rfl) fun a ha => ?_
    refine hK _ _ ?_; clear hK K
    refine wp_ret ?_
    exact rt1 ha rfl rfl ⟨rfl, hP, hC, hM⟩
  refine cnd ha rfl (fun hc => ?_) (fun hc => ?_)
  · have H := Option.some.inj (ite_t hc H)
    refine wp_seq_k fun K2 hK2 => ?_
    refine wp_region_lit ?_
    refine seg ha 3 [(0, .pointer (some ⟨g, 0, none⟩)), (1, .string (bstr o)), (5, .int .i64 ((mget x.labels o).getD 0)), (6, .bool (mget x.labels o).isSome), (19, .pointer (some ⟨g, 2, none⟩))] (by kernel_rfl) fun a ha => ?_
    refine ld (v := .map (some g1)) ha rfl (by kernel_rfl) rfl rfl rfl (hB.cell' (o := 2) rfl rfl) fun a ha => ?_
    refine seg ha 1 [(0, .pointer (some ⟨g, 0, none⟩)), (5, .int .i64 ((mget x.labels o).getD 0)), (6, .bool (mget x.labels o).isSome), (20, .map (some g1)), (21, .string (bstr o))] (by kernel_rfl) fun a ha => ?_
    refine mdl (k := o) ha u54 K9 rfl rfl rfl h1 fun a w1 ha h1 c1 => ?_
    have hB := hB.chg c1 (by simp [n1])
    have h2 := h2.chg c1 (by simp [Ne.symm n3])
    refine wpl_end ?_
    have ha := ha.sel (env' := [(0, .pointer (some ⟨g, 0, none⟩)), (5, .int .i64 ((mget x.labels o).getD 0)), (6, .bool (mget x.labels o).isSome)]) (by kernel_rfl)
    refine hK2 _ _ ?_; clear hK2 K2
    refine wp_region_lit ?_
    refine seg ha 3 [(5, .int .i64 ((mget x.labels o).getD 0)), (6, .bool (mget x.labels o).isSome), (24, .pointer (some ⟨g, 3, none⟩))] (by kernel_rfl) fun a ha => ?_
    refine ld (v := .map (some g2)) ha rfl (by kernel_rfl) rfl rfl rfl (hB.cell' (o := 3) rfl rfl) fun a ha => ?_
    refine seg ha 1 [(6, .bool (mget x.labels o).isSome), (25, .map (some g2)), (26, .int .i64 ((mget x.labels o).getD 0))] (by kernel_rfl) fun a ha => ?_
    refine mdl (k := (mget x.labels o).getD 0) ha u55 K3 rfl rfl rfl h2 fun a w2 ha h2 c2 => ?_
    have hB := hB.chg c2 (by simp [n2])
    have h1 := h1.chg c2 (by simp [n3])
    refine wpl_end ?_
    subst H
    have ha := ha.sel (env' := [(6, .bool (mget x.labels o).isSome)]) (by kernel_rfl)
    exact J _ _ (ha.lit hc) ⟨g1, g2, rfl, n1, n2, n3, hB, h1, h2⟩ ((c1.mono (gs' := [g, g1, g2]) (Ok.one (.inl (by simp)))).trans c2 (Ok.one (.inl (by simp)))) ((hM.chg c1).chg c2)
  · have H := Option.some.inj (ite_f hc H)
    refine wp_skip ?_
    subst H
    have ha := ha.sel (env' := [(6, .bool (mget x.labels o).isSome)]) (by kernel_rfl)
    exact J _ _ (ha.lit hc) ⟨g1, g2, rfl, n1, n2, n3, hB, h1, h2⟩ (Chg.refl _ _) hM
def Pool_New.f (a b : Int) : Option (Option PoolS × Int) := (if (if (if (if decide (a < (16 : Int)) = true then true else decide (a > (1048575 : Int))) = true then true else decide (b < (1 : Int))) = true then true else decide (b > IntKind.i64.wrap (IntKind.i64.wrap ((1048575 : Int) - a) + (1 : Int)))) = true then some (none, 1) else some (some ⟨a, b, [], []⟩, 0))
theorem Pool_New.walk (w : World) (M : List Nat) (hM : MS M w) (a0 b0 : Int) (r : Option PoolS × Int) (H : Pool_New.f a0 b0 = some r) :
    To Try.prog 9 [.int .i64 a0, .int .i64 b0] w fun v w' => ∃ po g L, v = .tuple #[.pointer po, .int .i64 r.2] ∧ (r.1 = none → po = none ∧ L = []) ∧ (∀ x, r.1 = some x → po = some ⟨g, 0, none⟩ ∧ PoolAt w' g L x) ∧ (∀ y ∈ L, w.heap.size ≤ y) ∧ Chg [] w w' ∧ MS (L ++ M) w' := by
  unfold Pool_New.f at H
  refine ent Try.func9 rfl [(0, .int .i64 a0), (1, .int .i64 b0)] rfl (by rfl) fun a ha => ?_
  refine wp_seq_k fun K hK => ?_
  refine wp_region_lit ?_
  refine seg ha 2 [(0, .int .i64 a0), (1, .int .i64 b0)] (by kernel_rfl) fun a ha => ?_
  refine hK _ _ ?_; clear hK K
  refine wp_seq_k fun K hK => ?_
  refine wp_seq_k fun K2 hK2 => ?_
  refine wp_region_lit ?_
  refine seg ha 17 [(0, .int .i64 a0), (1, .int .i64 b0), (22, .bool (if (if (if decide (a0 < (16 : Int)) = true then true else decide (a0 > (1048575 : Int))) = true then true else decide (b0 < (1 : Int))) = true then true else decide (b0 > IntKind.i64.wrap (IntKind.i64.wrap ((1048575 : Int) - a0) + (1 : Int)))))] (by kernel_rfl) fun a ha => ?_
  refine hK2 _ _ ?_; clear hK2 K2
  refine cnd ha rfl (fun hc => ?_) (fun hc => ?_)
  · have H := Option.some.inj (ite_t hc H)
    refine wp_seq_k fun K2 hK2 => ?_
    refine wp_region_lit ?_
    refine seg ha 2 [(4, .pointer none), (5, .int .i64 1)] (by kernel_rfl) fun a ha => ?_
    refine hK2 _ _ ?_; clear hK2 K2
    refine wp_ret ?_
    simp only [Exit.then, Exit.inBlock]
    subst H
    exact rt2 ha rfl rfl rfl ⟨none, 0, [], rfl, fun _ => ⟨rfl, rfl⟩, (fun x h => nomatch h), (fun _ h => nomatch h), Chg.refl _ _, hM⟩
  · have H := Option.some.inj (ite_f hc H)
    refine wp_skip ?_
    refine hK _ _ ?_; clear hK K
    refine wp_seq_k fun K hK => ?_
    refine wp_region_lit ?_
    refine seg ha 2 [(23, .int .i64 a0), (24, .int .i64 b0)] (by kernel_rfl) fun a ha => ?_
    refine mmk ha rfl rfl rfl fun a w1 g1 N1 ha => ?_
    refine mmk ha rfl rfl rfl fun a w2 g2 N2 ha => ?_
    refine opk (v := .agg #[.int .i64 a0, .int .i64 b0, .map (some g1), .map (some g2)]) ha rfl rfl rfl rfl rfl (fun w => by kernel_rfl) fun a ha => ?_
    refine bx (cs := [.int .i64 a0, .int .i64 b0, .map (some g1), .map (some g2)]) ha rfl rfl rfl rfl rfl fun a w3 g N3 ha => ?_
    refine seg ha 2 [(4, .pointer (some ⟨g, 0, none⟩)), (5, .int .i64 0)] (by kernel_rfl) fun a ha => ?_
    refine hK _ _ ?_; clear hK K
    refine wp_ret ?_
    subst H
    have z1 := N1.ge
    have z2 := N2.ge
    have z3 := N3.ge
    have s1 := N1.size
    have s2 := N2.size
    have s3 := N3.size
    have m1 : MapR kS (kI .i64) w3 g1 [] := (N1.mapR.chg N2.chg (fun h => nomatch h)).chg N3.chg (fun h => nomatch h)
    have m2 : MapR (kI .i64) kS w3 g2 [] := N2.mapR.chg N3.chg (fun h => nomatch h)
    refine rt2 ha rfl rfl rfl ⟨some ⟨g, 0, none⟩, g, [g, g1, g2], rfl, (fun h => nomatch h), ?_, ?_, ?_, ?_⟩
    · rintro x h
      obtain rfl := Option.some.inj h
      exact ⟨rfl, g1, g2, rfl, by omega, by omega, by omega, N3.box, m1, m2⟩
    · intro y hy
      simp at hy
      omega
    · exact (N1.chg.trans N2.chg (Ok.nil _ _)).trans N3.chg (Ok.nil _ _)
    · refine MS.app ?_ (((hM.chg N1.chg).chg N2.chg).chg N3.chg)
      intro y hy
      simp at hy
      omega
def Pool_Take.l0 (ow : List (Int × List UInt8)) : Nat → Int → Option Int
  | 0, _ => none
  | k + 1, n => if (mget ow n).isSome = true then Pool_Take.l0 ow k (IntKind.i64.wrap (n + (1 : Int))) else some n
def Pool_Take.f (k : Nat) (x : PoolS) (o : List UInt8) : Option (Int × Int × PoolS) :=
  if (mget x.labels o).isSome = true then some ((mget x.labels o).getD 0, 0, x) else
  if ((x.labels.length : Int) == x.count) = true then some (0, 6, x) else
  (Pool_Take.l0 x.owners k x.first).bind fun n => some (n, 0, ⟨x.first, x.count, mset x.labels o n, mset x.owners n o⟩)
theorem Pool_Take.walk (w : World) (M : List Nat) (hM : MS M w) (g : Nat) (L : List Nat) (x : PoolS) (f : PoolAt w g L x) (hL : ∀ y ∈ L, y ∈ M) (o : List UInt8) (k : Nat) (r : Int × Int × PoolS) (H : Pool_Take.f k x o = some r) :
    To Try.prog 10 [.pointer (some ⟨g, 0, none⟩), .string (bstr o)] w fun v w' => v = .tuple #[.int .i64 r.1, .int .i64 r.2.1] ∧ PoolAt w' g L r.2.2 ∧ Chg L w w' ∧ MS M w' := by
  unfold Pool_Take.f at H
  obtain ⟨g1, g2, rfl, n1, n2, n3, hB, h1, h2⟩ := f
  refine ent Try.func10 rfl [(0, .pointer (some ⟨g, 0, none⟩)), (1, .string (bstr o))] rfl (by rfl) fun a ha => ?_
  refine wp_seq_k fun K hK => ?_
  refine wp_region_lit ?_
  refine seg ha 2 [(0, .pointer (some ⟨g, 0, none⟩)), (1, .string (bstr o))] (by kernel_rfl) fun a ha => ?_
  refine hK _ _ ?_; clear hK K
  refine wp_seq_k fun K hK => ?_
  refine wp_seq_k fun K2 hK2 => ?_
  refine wp_region_lit ?_
  refine seg ha 3 [(0, .pointer (some ⟨g, 0, none⟩)), (1, .string (bstr o)), (14, .pointer (some ⟨g, 2, none⟩))] (by kernel_rfl) fun a ha => ?_
  refine ld (v := .map (some g1)) ha rfl (by kernel_rfl) rfl rfl rfl (hB.cell' (o := 2) rfl rfl) fun a ha => ?_
  refine seg ha 1 [(0, .pointer (some ⟨g, 0, none⟩)), (1, .string (bstr o)), (15, .map (some g1)), (16, .string (bstr o))] (by kernel_rfl) fun a ha => ?_
  refine mlk (k := o) (z := (0 : Int)) ha u54 K9 rfl rfl (fun w => by kernel_rfl) rfl rfl rfl h1 fun a ha => ?_
  refine seg ha 5 [(0, .pointer (some ⟨g, 0, none⟩)), (1, .string (bstr o)), (6, .int .i64 ((mget x.labels o).getD 0)), (7, .bool (mget x.labels o).isSome)] (by kernel_rfl) fun a ha => ?_
  refine hK2 _ _ ?_; clear hK2 K2
  refine wp_seq_k fun K2 hK2 => ?_
  refine wp_region_lit ?_
  refine seg ha 1 [(0, .pointer (some ⟨g, 0, none⟩)), (1, .string (bstr o)), (6, .int .i64 ((mget x.labels o).getD 0)), (20, .bool (mget x.labels o).isSome)] (by kernel_rfl) fun a ha => ?_
  refine hK2 _ _ ?_; clear hK2 K2
  refine cnd ha rfl (fun hc => ?_) (fun hc => ?_)
  · have H := Option.some.inj (ite_t hc H)
    refine wp_seq_k fun K2 hK2 => ?_
    refine wp_region_lit ?_
    refine seg ha 3 [(4, .int .i64 ((mget x.labels o).getD 0)), (5, .int .i64 0)] (by kernel_rfl) fun a ha => ?_
    refine hK2 _ _ ?_; clear hK2 K2
    refine wp_ret ?_
    simp only [Exit.then, Exit.inBlock]
    subst H
    exact rt2 ha rfl rfl rfl ⟨rfl, ⟨g1, g2, rfl, n1, n2, n3, hB, h1, h2⟩, Chg.refl _ _, hM⟩
  have H := ite_f hc H
  refine wp_skip ?_
  refine hK _ _ ?_; clear hK K
  refine wp_seq_k fun K hK => ?_
  refine wp_seq_k fun K2 hK2 => ?_
  refine drq0 (fun w' => Chg [] w w') (by kernel_rfl) (by kernel_rfl) (fun _ h => h) ?_
  refine qp 0 (.pointer (some ⟨g, 0, none⟩)) ha rfl rfl rfl (by kernel_rfl) fun a ha => ?_
  refine qp 0 (.pointer (some ⟨g, 0, none⟩)) ha rfl rfl rfl (by kernel_rfl) fun a ha => ?_
  refine qp 0 (.pointer (some ⟨g, 2, none⟩)) ha rfl rfl rfl (by kernel_rfl) fun a ha => ?_
  refine qv (v := .map (some g1)) ha rfl rfl rfl (fun w' hs => ld_run ha rfl (by kernel_rfl) ((hB.chg hs (fun h => nomatch h)).cell' (o := 2) rfl rfl)) fun a ha => ?_
  refine qv (v := .int .i64 (x.labels.length : Int)) ha rfl rfl rfl (fun w' hs => mln_run ha u54 rfl (h1.chg hs (fun h => nomatch h))) fun a ha => ?_
  refine qp 0 (.pointer (some ⟨g, 0, none⟩)) ha rfl rfl rfl (by kernel_rfl) fun a ha => ?_
  refine qp 0 (.pointer (some ⟨g, 0, none⟩)) ha rfl rfl rfl (by kernel_rfl) fun a ha => ?_
  refine qp 0 (.pointer (some ⟨g, 1, none⟩)) ha rfl rfl rfl (by kernel_rfl) fun a ha => ?_
  refine qv (v := .int .i64 x.count) ha rfl rfl rfl (fun w' hs => ld_run ha rfl (by kernel_rfl) ((hB.chg hs (fun h => nomatch h)).cell' (o := 1) rfl rfl)) fun a ha => ?_
  refine qp 0 (.bool ((x.labels.length : Int) == x.count)) ha rfl rfl rfl (by kernel_rfl) fun a ha => ?_
  have ha := ha.sel (env' := [(31, .bool ((x.labels.length : Int) == x.count)), (0, .pointer (some ⟨g, 0, none⟩)), (1, .string (bstr o))]) (by kernel_rfl)
  intro w1 hs
  refine wpl_end ?_
  have hB := hB.chg hs (fun h => nomatch h)
  have h1 := h1.chg hs (fun h => nomatch h)
  have h2 := h2.chg hs (fun h => nomatch h)
  have hM := hM.chg hs
  have hC : Chg [g, g1, g2] w w1 := hs.mono (Ok.nil _ _)
  refine hK2 _ _ ?_; clear hK2 K2
  refine cnd ha rfl (fun hc2 => ?_) (fun hc2 => ?_)
  · have H := Option.some.inj (ite_t hc2 H)
    refine wp_seq_k fun K2 hK2 => ?_
    refine wp_region_lit ?_
    refine seg ha 2 [(4, .int .i64 0), (5, .int .i64 6)] (by kernel_rfl) fun a ha => ?_
    refine hK2 _ _ ?_; clear hK2 K2
    refine wp_ret ?_
    simp only [Exit.then, Exit.inBlock]
    subst H
    exact rt2 ha rfl rfl rfl ⟨rfl, ⟨g1, g2, rfl, n1, n2, n3, hB, h1, h2⟩, hC, hM⟩
  have H := ite_f hc2 H
  refine wp_skip ?_
  refine hK _ _ ?_; clear hK K
  obtain ⟨s, Hs, H⟩ := bind_some H
  have H := Option.some.inj H
  refine wp_seq_k fun K hK => ?_
  refine wp_region_lit ?_
  refine seg ha 3 [(0, .pointer (some ⟨g, 0, none⟩)), (1, .string (bstr o)), (34, .pointer (some ⟨g, 0, none⟩))] (by kernel_rfl) fun a ha => ?_
  refine ld (v := .int .i64 x.first) ha rfl (by kernel_rfl) rfl rfl rfl (hB.cell' (o := 0) rfl rfl) fun a ha => ?_
  refine seg ha 1 [(0, .pointer (some ⟨g, 0, none⟩)), (1, .string (bstr o)), (8, .int .i64 x.first)] (by kernel_rfl) fun a ha => ?_
  refine hK _ _ ?_; clear hK K
  refine wp_seq_k fun K hK => ?_
  refine wp_seq_k fun K2 hK2 => ?_
  refine wp_region_lit ?_
  refine seg ha 3 [(0, .pointer (some ⟨g, 0, none⟩)), (1, .string (bstr o)), (8, .int .i64 x.first), (39, .pointer (some ⟨g, 3, none⟩))] (by kernel_rfl) fun a ha => ?_
  refine ld (v := .map (some g2)) ha rfl (by kernel_rfl) rfl rfl rfl (hB.cell' (o := 3) rfl rfl) fun a ha => ?_
  refine seg ha 1 [(0, .pointer (some ⟨g, 0, none⟩)), (1, .string (bstr o)), (8, .int .i64 x.first), (40, .map (some g2)), (41, .int .i64 x.first)] (by kernel_rfl) fun a ha => ?_
  refine mlk (k := x.first) (z := ([] : List UInt8)) ha u55 K3 rfl rfl (fun w => by kernel_rfl) rfl rfl rfl h2 fun a ha => ?_
  refine seg ha 5 [(0, .pointer (some ⟨g, 0, none⟩)), (1, .string (bstr o)), (8, .int .i64 x.first), (10, .bool (mget x.owners x.first).isSome)] (by kernel_rfl) fun a ha => ?_
  refine hK2 _ _ ?_; clear hK2 K2
  refine wp_block ?_
  have J : ∀ (a : Act) (w1 : World), Has a Try.f10.ntmps [(0, .pointer (some ⟨g, 0, none⟩)), (1, .string (bstr o)), (8, .int .i64 s)] → Box w1 g [.int .i64 x.first, .int .i64 x.count, .map (some g1), .map (some g2)] → MapR kS (kI .i64) w1 g1 x.labels → MapR (kI .i64) kS w1 g2 x.owners → Chg [g, g1, g2] w w1 → MS M w1 → K a w1 := by
    intro a w1 ha hB h1 h2 hC hM
    refine hK _ _ ?_; clear hK K
    refine wp_seq_k fun K hK => ?_
    refine drw (fun w' => Chg [g1, g2] w1 w') (by kernel_rfl) fun w2 hs _ => ?_
    have hS : Chg [g1, g2] w1 w2 := hs.mono (Ok.nil _ _)
    refine tkpz 0 0 (.pointer (some ⟨g, 0, none⟩)) ha (s := hS) (q := fun a ha => ?_)
    refine tkpz 1 0 (.pointer (some ⟨g, 0, none⟩)) ha (s := hS) (q := fun a ha => ?_)
    refine tkpz 2 0 (.pointer (some ⟨g, 2, none⟩)) ha (s := hS) (q := fun a ha => ?_)
    refine tkz 3 ha (v := .map (some g1)) (y := fun w' hs => ld_run ha rfl (by kernel_rfl) ((hB.chg hs (by simp [n1, n2])).cell' (o := 2) rfl rfl)) (s := hS) (q := fun a ha => ?_)
    refine tkpz 4 0 (.string (bstr o)) ha (s := hS) (q := fun a ha => ?_)
    refine tkpz 5 0 (.pointer (some ⟨g, 0, none⟩)) ha (s := hS) (q := fun a ha => ?_)
    refine tkpz 6 0 (.pointer (some ⟨g, 0, none⟩)) ha (s := hS) (q := fun a ha => ?_)
    refine tkpz 7 0 (.pointer (some ⟨g, 3, none⟩)) ha (s := hS) (q := fun a ha => ?_)
    refine tkz 8 ha (v := .map (some g2)) (y := fun w' hs => ld_run ha rfl (by kernel_rfl) ((hB.chg hs (by simp [n1, n2])).cell' (o := 3) rfl rfl)) (s := hS) (q := fun a ha => ?_)
    refine tkpz 9 0 (.int .i64 s) ha (s := hS) (q := fun a ha => ?_)
    refine tkpz 10 0 (.int .i64 s) ha (s := hS) (q := fun a ha => ?_)
    refine tkpz 11 0 (.string (bstr o)) ha (s := hS) (q := fun a ha => ?_)
    have ha := ha.sel (env' := [(60, .map (some g1)), (61, .string (bstr o)), (67, .int .i64 s), (65, .map (some g2)), (66, .int .i64 s), (68, .string (bstr o)), (8, .int .i64 s)]) (by kernel_rfl)
    have hB := hB.chg hs (fun h => nomatch h)
    have h1 := h1.chg hs (fun h => nomatch h)
    have h2 := h2.chg hs (fun h => nomatch h)
    have hM := hM.chg hs
    have hC := hC.trans hs (Ok.nil _ _)
    refine ac 12 (by kernel_rfl) rfl fun K2 hK2 => ?_
    refine men (k := o) (z := (0 : Int)) ha u54 K9 rfl rfl (fun w => by kernel_rfl) rfl rfl rfl h1 fun a w3 st ha e1 c3 => ?_
    have hS := hS.trans c3 (Ok.one (.inl (by simp)))
    have hB := hB.chg c3 (by simp [n1])
    have h2 := h2.chg c3 (by simp [Ne.symm n3])
    have hM := hM.chg c3
    have hC := hC.trans c3 (Ok.one (.inl (by simp)))
    refine ae hK2 hS ?_
    clear hK2 K2
    refine tkpz 13 0 (.int .i64 st) ha (s := hS) (q := fun a ha => ?_)
    refine ac 14 (by kernel_rfl) rfl fun K2 hK2 => ?_
    refine mes (v := s) (kv := kS) (k := o) ha rfl rfl rfl rfl e1 fun a w4 ha h1 c4 => ?_
    have hS := hS.trans c4 (Ok.one (.inl (by simp)))
    have hB := hB.chg c4 (by simp [n1])
    have h2 := h2.chg c4 (by simp [Ne.symm n3])
    have hM := hM.chg c4
    have hC := hC.trans c4 (Ok.one (.inl (by simp)))
    refine ae hK2 hS ?_
    clear hK2 K2
    refine ac 15 (by kernel_rfl) rfl fun K2 hK2 => ?_
    refine men (k := s) (z := ([] : List UInt8)) ha u55 K3 rfl rfl (fun w => by kernel_rfl) rfl rfl rfl h2 fun a w5 st2 ha e2 c5 => ?_
    have hS := hS.trans c5 (Ok.one (.inl (by simp)))
    have hB := hB.chg c5 (by simp [n2])
    have h1 := h1.chg c5 (by simp [n3])
    have hM := hM.chg c5
    have hC := hC.trans c5 (Ok.one (.inl (by simp)))
    refine ae hK2 hS ?_
    clear hK2 K2
    refine tkpz 16 0 (.int .i64 st2) ha (s := hS) (q := fun a ha => ?_)
    refine ac 17 (by kernel_rfl) rfl fun K2 hK2 => ?_
    refine mes (v := o) (kv := kI .i64) (k := s) ha rfl rfl rfl rfl e2 fun a w6 ha h2 c6 => ?_
    have hS := hS.trans c6 (Ok.one (.inl (by simp)))
    have hB := hB.chg c6 (by simp [n2])
    have h1 := h1.chg c6 (by simp [n3])
    have hM := hM.chg c6
    have hC := hC.trans c6 (Ok.one (.inl (by simp)))
    refine ae hK2 hS ?_
    clear hK2 K2
    refine dn (by kernel_rfl) ?_
    have ha := ha.sel (env' := [(8, .int .i64 s)]) (by kernel_rfl)
    refine hK _ _ ?_; clear hK K
    refine wp_seq_k fun K hK => ?_
    refine wp_region_lit ?_
    refine seg ha 3 [(4, .int .i64 s), (5, .int .i64 0)] (by kernel_rfl) fun a ha => ?_
    refine hK _ _ ?_; clear hK K
    refine wp_ret ?_
    subst H
    exact rt2 ha rfl rfl rfl ⟨rfl, ⟨g1, g2, rfl, n1, n2, n3, hB, h1, h2⟩, hC, hM⟩
  refine wp_loop_ghost (fun kk a w1 => ∃ n : Int, Pool_Take.l0 x.owners kk n = some s ∧ Has a Try.f10.ntmps [(0, .pointer (some ⟨g, 0, none⟩)), (1, .string (bstr o)), (8, .int .i64 n), (10, .bool (mget x.owners n).isSome)] ∧ Box w1 g [.int .i64 x.first, .int .i64 x.count, .map (some g1), .map (some g2)] ∧ MapR kS (kI .i64) w1 g1 x.labels ∧ MapR (kI .i64) kS w1 g2 x.owners ∧ Chg [g, g1, g2] w w1 ∧ MS M w1) k ?_ ?_
  · exact ⟨x.first, Hs, ha.sel (by kernel_rfl), hB, h1, h2, hC, hM⟩
  · rintro kk a w2 ⟨n, Hn, ha, hB, h1, h2, hC, hM⟩
    obtain _ | kk := kk
    · exact nomatch (show none = some _ from Hn)
    rw [Pool_Take.l0] at Hn
    refine wp_seq_k fun K2 hK2 => ?_
    refine wp_seq_k fun K3 hK3 => ?_
    refine wp_region_lit ?_
    refine seg ha 1 [(0, .pointer (some ⟨g, 0, none⟩)), (1, .string (bstr o)), (8, .int .i64 n), (45, .bool (mget x.owners n).isSome)] (by kernel_rfl) fun a ha => ?_
    refine hK3 _ _ ?_; clear hK3 K3
    refine cnd ha rfl (fun hc3 => ?_) (fun hc3 => ?_)
    · have Hn := ite_t hc3 Hn
      refine wp_skip ?_
      refine hK2 _ _ ?_; clear hK2 K2
      refine wp_seq_k fun K2 hK2 => ?_
      refine wp_block ?_
      refine wp_region_lit ?_
      refine seg ha 3 [(0, .pointer (some ⟨g, 0, none⟩)), (1, .string (bstr o)), (8, .int .i64 (IntKind.i64.wrap (n + (1 : Int))))] (by kernel_rfl) fun a ha => ?_
      refine hK2 _ _ ?_; clear hK2 K2
      refine wp_region_lit ?_
      refine seg ha 3 [(0, .pointer (some ⟨g, 0, none⟩)), (1, .string (bstr o)), (8, .int .i64 (IntKind.i64.wrap (n + (1 : Int)))), (49, .pointer (some ⟨g, 3, none⟩))] (by kernel_rfl) fun a ha => ?_
      refine ld (v := .map (some g2)) ha rfl (by kernel_rfl) rfl rfl rfl (hB.cell' (o := 3) rfl rfl) fun a ha => ?_
      refine seg ha 1 [(0, .pointer (some ⟨g, 0, none⟩)), (1, .string (bstr o)), (8, .int .i64 (IntKind.i64.wrap (n + (1 : Int)))), (50, .map (some g2)), (51, .int .i64 (IntKind.i64.wrap (n + (1 : Int))))] (by kernel_rfl) fun a ha => ?_
      refine mlk (k := IntKind.i64.wrap (n + (1 : Int))) (z := ([] : List UInt8)) ha u55 K3 rfl rfl (fun w => by kernel_rfl) rfl rfl rfl h2 fun a ha => ?_
      refine seg ha 4 [(0, .pointer (some ⟨g, 0, none⟩)), (1, .string (bstr o)), (8, .int .i64 (IntKind.i64.wrap (n + (1 : Int)))), (10, .bool (mget x.owners (IntKind.i64.wrap (n + (1 : Int)))).isSome)] (by kernel_rfl) fun a ha => ?_
      exact ⟨kk, Nat.lt_succ_self _, ⟨_, Hn, ha.sel (by kernel_rfl), hB, h1, h2, hC, hM⟩⟩
    · have Hn := ite_f hc3 Hn
      refine wp_exit ?_
      simp only [Exit.then, Exit.inBlock, ↓reduceIte, Nat.reduceEqDiff]
      obtain rfl := Option.some.inj Hn
      exact J _ _ (ha.sel (by kernel_rfl)) hB h1 h2 hC hM



def vinerylaw05_small.f (k : Nat) : Option (Bool) := (label_Bytes.f k (16 : Int) true).bind fun t3 => (Pool_New.f (16 : Int) (2 : Int)).bind fun t6 => om t6.1 (some ((false : Bool))) fun x6 => (Pool_Take.f k x6 ([97] : List UInt8)).bind fun t15 => (Pool_Take.f k t15.2.2 ([98] : List UInt8)).bind fun t17 => (Pool_Take.f k t17.2.2 ([99] : List UInt8)).bind fun t19 => (Pool_Free.f t19.2.2 ([97] : List UInt8)).bind fun t21 => (Pool_Take.f k t21.2 ([99] : List UInt8)).bind fun t23 => ((if (t3.2 == (0 : Int)) = true then (if ((bstr (b2s t3.1)).toList == (bstr ([0, 1, 1] : List UInt8)).toList) = true then (if (t6.2 == (0 : Int)) = true then (if (t15.2.1 == (0 : Int)) = true then (if (t15.1 == (16 : Int)) = true then (if (t17.2.1 == (0 : Int)) = true then (if (t17.1 == (17 : Int)) = true then (if (t19.2.1 == (6 : Int)) = true then (if t21.1 = true then (if (t23.2.1 == (0 : Int)) = true then some (t23.1 == (16 : Int) : Bool) else some (false : Bool)) else some (false : Bool)) else some (false : Bool)) else some (false : Bool)) else some (false : Bool)) else some (false : Bool)) else some (false : Bool)) else some (false : Bool)) else some (false : Bool)) else some (false : Bool))).bind fun s25 => some ((s25 : Bool))
set_option maxRecDepth 100000 in
theorem vinerylaw05_small.walk (w : World) (M : List Nat) (hM : MS M w)  (k : Nat) (r : Bool) (H : vinerylaw05_small.f k = some r) :
    To Try.prog 8 [] w fun v w' => v = .bool r ∧ Chg [] w w' ∧ MS (M) w' := by
 unfold vinerylaw05_small.f at H
 refine ent Try.func8 rfl [] rfl (by rfl) fun a ha => ?_
 have hC : Chg [] w w := Chg.refl _ _
 refine wp_seq_k fun K1 hK1 => ?_
 refine wp_region_lit ?_
 refine seg ha 1 [] (by kernel_rfl) fun a ha => ?_
 refine hK1 _ _ ?_; try clear hK1 K1
 refine wp_seq_k fun K2 hK2 => ?_
 refine wp_region_lit ?_
 obtain ⟨t3, H3, H⟩ := bind_some H
 refine cl ha (by rfl) (by kernel_rfl) (by rfl) (by rfl) (by rfl) (label_Bytes.walk w _ hM (16 : Int) true k _ H3) ?_
 rintro _ w3 ⟨ao4, cap4, rfl, f4, ne_i4, hc3, hMn⟩ a ha
 have p_i4_M : ∀ x ∈ blkL ao4, x ∉ M := fun x hx hy => absurd (hM x (hy)) (Nat.not_lt.2 (ne_i4 x hx))
 have e_i4 : ∀ x ∈ blkL ao4, w.heap.size ≤ x := fun x hx => Nat.le_trans hC.size (ne_i4 x hx)
 have hM : MS (blkL ao4 ++ (M)) w3 := (MS.app (fun x h => hMn x (ml h)) (hM.chg hc3))
 have hC := hC.trans hc3 (Ok.nil _ _)
 refine seg ha 5 [(1, .slice ao4 t3.1.length cap4), (2, .int .i64 t3.2)] (by kernel_rfl) fun a ha => ?_
 refine hK2 _ _ ?_; try clear hK2 K2
 refine wp_seq_k fun K5 hK5 => ?_
 refine wp_region_lit ?_
 obtain ⟨t6, H6, H⟩ := bind_some H
 refine cl ha (by rfl) (by kernel_rfl) (by rfl) (by rfl) (by rfl) (Pool_New.walk w3 _ hM (16 : Int) (2 : Int) _ H6) ?_
 rintro _ w6 ⟨po6, gO6, L6, rfl, hn6, hs6, ne_i6, hc6, hMn⟩ a ha
 rcases om_cases H with ⟨he6, H⟩ | ⟨x6, he6, H⟩
 ·skip
  obtain ⟨rfl, rfl⟩ := hn6 he6
  have o1 : Ok [] (blkL ao4 ++ (M)) w3.heap.size := Ok.nil _ _
  have o2 : Ok (blkL ao4 ++ (M)) (blkL ao4 ++ (M)) w3.heap.size := (Ok.refl _ _)
  have f4 := f4.chg hc6 o1 o2 (fun _ _ h => nomatch h) (fun _ h => ml h)
  have hM : MS (blkL ao4 ++ (M)) w6 := (hM.chg hc6)
  have hC := hC.trans hc6 (Ok.nil _ _)
  refine seg ha 5 [(1, .slice ao4 t3.1.length cap4), (2, .int .i64 t3.2), (3, .pointer none), (4, .int .i64 t6.2)] (by kernel_rfl) fun a ha => ?_
  refine hK5 _ _ ?_; try clear hK5 K5
  refine wp_seq_k fun K7 hK7 => ?_
  refine wp_seq_k fun K8 hK8 => ?_
  refine wp_region_lit ?_
  refine seg ha 2 [(1, .slice ao4 t3.1.length cap4), (2, .int .i64 t3.2), (3, .pointer none), (4, .int .i64 t6.2), (23, .bool true)] (by kernel_rfl) fun a ha => ?_
  refine hK8 _ _ ?_; try clear hK8 K8
  refine cnd ha rfl (fun _ => ?_) (fun h => nomatch h)
  refine wp_seq_k fun K10 hK10 => ?_
  refine wp_region_lit ?_
  refine seg ha 1 [(0, .bool false)] (by kernel_rfl) fun a ha => ?_
  refine hK10 _ _ ?_; try clear hK10 K10
  refine wp_ret ?_
  try simp only [Exit.then, Exit.inBlock]
  have hM : MS (M) w6 := (fun x h => hM.chg (Chg.refl [] _) x (mr (h)))
  have hC := hC.trans (Chg.refl [] _) (Ok.nil _ _)
  obtain rfl := Option.some.inj H
  refine rt1 ha rfl rfl ?_
  exact ⟨rfl, hC, hM⟩
 ·skip
  obtain ⟨rfl, fO6⟩ := hs6 x6 he6
  have o1 : Ok [] (blkL ao4 ++ (M)) w3.heap.size := Ok.nil _ _
  have o2 : Ok (L6 ++ (blkL ao4 ++ (M))) (blkL ao4 ++ (M)) w3.heap.size := (Ok.app (fun x h => .inr (ne_i6 x h)) (Ok.refl _ _))
  have f4 := f4.chg hc6 o1 o2 (fun _ _ h => nomatch h) (fun _ h => mr (ml h))
  have p_i6_i4 : ∀ x ∈ L6, x ∉ (blkL ao4) := fun x hx hy => absurd (hM x (ml hy)) (Nat.not_lt.2 (ne_i6 x hx))
  have p_i6_M : ∀ x ∈ L6, x ∉ M := fun x hx hy => absurd (hM x (mr (hy))) (Nat.not_lt.2 (ne_i6 x hx))
  have e_i6 : ∀ x ∈ L6, w.heap.size ≤ x := fun x hx => Nat.le_trans hC.size (ne_i6 x hx)
  have hM : MS (L6 ++ (blkL ao4 ++ (M))) w6 := (MS.app (fun x h => hMn x (ml h)) (hM.chg hc6))
  have hC := hC.trans hc6 (Ok.nil _ _)
  refine seg ha 5 [(1, .slice ao4 t3.1.length cap4), (2, .int .i64 t3.2), (3, .pointer (some ⟨gO6, 0, none⟩)), (4, .int .i64 t6.2)] (by kernel_rfl) fun a ha => ?_
  refine hK5 _ _ ?_; try clear hK5 K5
  refine wp_seq_k fun K11 hK11 => ?_
  refine wp_seq_k fun K12 hK12 => ?_
  refine wp_region_lit ?_
  refine seg ha 2 [(1, .slice ao4 t3.1.length cap4), (2, .int .i64 t3.2), (3, .pointer (some ⟨gO6, 0, none⟩)), (4, .int .i64 t6.2), (23, .bool false)] (by kernel_rfl) fun a ha => ?_
  refine hK12 _ _ ?_; try clear hK12 K12
  refine cnd ha rfl (fun h => nomatch h) (fun _ => ?_)
  refine wp_skip ?_
  refine hK11 _ _ ?_; try clear hK11 K11
  refine wp_seq_k fun K14 hK14 => ?_
  refine wp_region_lit ?_
  refine seg ha 1 [(1, .slice ao4 t3.1.length cap4), (2, .int .i64 t3.2), (3, .pointer (some ⟨gO6, 0, none⟩)), (4, .int .i64 t6.2), (25, .pointer (some ⟨gO6, 0, none⟩))] (by kernel_rfl) fun a ha => ?_
  obtain ⟨t15, H15, H⟩ := bind_some H
  refine cl ha (by rfl) (by kernel_rfl) (by rfl) (by rfl) (by rfl) (Pool_Take.walk w6 _ hM gO6 L6 x6 fO6 (fun _ h => ml h) ([97] : List UInt8) k _ H15) ?_
  rintro _ w15 ⟨rfl, nf15, hc15, hMn⟩ a ha
  have o1 : Ok L6 (L6 ++ (blkL ao4 ++ (M))) w6.heap.size := (fun _ h => .inl (ml h))
  have o2 : Ok (L6 ++ (blkL ao4 ++ (M))) (L6 ++ (blkL ao4 ++ (M))) w6.heap.size := (Ok.refl _ _)
  have f4 := f4.chg hc15 o1 o2 (fun x (hx : x ∈ blkL ao4) (hy : x ∈ L6) => p_i6_i4 x hy hx) (fun _ h => mr (ml h))
  have hM : MS (L6 ++ (blkL ao4 ++ (M))) w15 := (hM.chg hc15)
  have hC := hC.trans hc15 (fun x h => .inr (e_i6 x h))
  have fO6 := nf15
  refine seg ha 5 [(1, .slice ao4 t3.1.length cap4), (2, .int .i64 t3.2), (3, .pointer (some ⟨gO6, 0, none⟩)), (4, .int .i64 t6.2), (5, .int .i64 t15.1), (6, .int .i64 t15.2.1)] (by kernel_rfl) fun a ha => ?_
  refine hK14 _ _ ?_; try clear hK14 K14
  refine wp_seq_k fun K16 hK16 => ?_
  refine wp_region_lit ?_
  refine seg ha 1 [(1, .slice ao4 t3.1.length cap4), (2, .int .i64 t3.2), (3, .pointer (some ⟨gO6, 0, none⟩)), (4, .int .i64 t6.2), (5, .int .i64 t15.1), (6, .int .i64 t15.2.1), (30, .pointer (some ⟨gO6, 0, none⟩))] (by kernel_rfl) fun a ha => ?_
  obtain ⟨t17, H17, H⟩ := bind_some H
  refine cl ha (by rfl) (by kernel_rfl) (by rfl) (by rfl) (by rfl) (Pool_Take.walk w15 _ hM gO6 L6 t15.2.2 fO6 (fun _ h => ml h) ([98] : List UInt8) k _ H17) ?_
  rintro _ w17 ⟨rfl, nf17, hc17, hMn⟩ a ha
  have o1 : Ok L6 (L6 ++ (blkL ao4 ++ (M))) w15.heap.size := (fun _ h => .inl (ml h))
  have o2 : Ok (L6 ++ (blkL ao4 ++ (M))) (L6 ++ (blkL ao4 ++ (M))) w15.heap.size := (Ok.refl _ _)
  have f4 := f4.chg hc17 o1 o2 (fun x (hx : x ∈ blkL ao4) (hy : x ∈ L6) => p_i6_i4 x hy hx) (fun _ h => mr (ml h))
  have hM : MS (L6 ++ (blkL ao4 ++ (M))) w17 := (hM.chg hc17)
  have hC := hC.trans hc17 (fun x h => .inr (e_i6 x h))
  have fO6 := nf17
  refine seg ha 5 [(1, .slice ao4 t3.1.length cap4), (2, .int .i64 t3.2), (3, .pointer (some ⟨gO6, 0, none⟩)), (4, .int .i64 t6.2), (5, .int .i64 t15.1), (6, .int .i64 t15.2.1), (7, .int .i64 t17.1), (8, .int .i64 t17.2.1)] (by kernel_rfl) fun a ha => ?_
  refine hK16 _ _ ?_; try clear hK16 K16
  refine wp_seq_k fun K18 hK18 => ?_
  refine wp_region_lit ?_
  refine seg ha 1 [(1, .slice ao4 t3.1.length cap4), (2, .int .i64 t3.2), (3, .pointer (some ⟨gO6, 0, none⟩)), (4, .int .i64 t6.2), (5, .int .i64 t15.1), (6, .int .i64 t15.2.1), (7, .int .i64 t17.1), (8, .int .i64 t17.2.1), (35, .pointer (some ⟨gO6, 0, none⟩))] (by kernel_rfl) fun a ha => ?_
  obtain ⟨t19, H19, H⟩ := bind_some H
  refine cl ha (by rfl) (by kernel_rfl) (by rfl) (by rfl) (by rfl) (Pool_Take.walk w17 _ hM gO6 L6 t17.2.2 fO6 (fun _ h => ml h) ([99] : List UInt8) k _ H19) ?_
  rintro _ w19 ⟨rfl, nf19, hc19, hMn⟩ a ha
  have o1 : Ok L6 (L6 ++ (blkL ao4 ++ (M))) w17.heap.size := (fun _ h => .inl (ml h))
  have o2 : Ok (L6 ++ (blkL ao4 ++ (M))) (L6 ++ (blkL ao4 ++ (M))) w17.heap.size := (Ok.refl _ _)
  have f4 := f4.chg hc19 o1 o2 (fun x (hx : x ∈ blkL ao4) (hy : x ∈ L6) => p_i6_i4 x hy hx) (fun _ h => mr (ml h))
  have hM : MS (L6 ++ (blkL ao4 ++ (M))) w19 := (hM.chg hc19)
  have hC := hC.trans hc19 (fun x h => .inr (e_i6 x h))
  have fO6 := nf19
  refine seg ha 5 [(1, .slice ao4 t3.1.length cap4), (2, .int .i64 t3.2), (3, .pointer (some ⟨gO6, 0, none⟩)), (4, .int .i64 t6.2), (5, .int .i64 t15.1), (6, .int .i64 t15.2.1), (7, .int .i64 t17.1), (8, .int .i64 t17.2.1), (10, .int .i64 t19.2.1)] (by kernel_rfl) fun a ha => ?_
  refine hK18 _ _ ?_; try clear hK18 K18
  refine wp_seq_k fun K20 hK20 => ?_
  refine wp_region_lit ?_
  refine seg ha 1 [(1, .slice ao4 t3.1.length cap4), (2, .int .i64 t3.2), (3, .pointer (some ⟨gO6, 0, none⟩)), (4, .int .i64 t6.2), (5, .int .i64 t15.1), (6, .int .i64 t15.2.1), (7, .int .i64 t17.1), (8, .int .i64 t17.2.1), (10, .int .i64 t19.2.1), (39, .pointer (some ⟨gO6, 0, none⟩))] (by kernel_rfl) fun a ha => ?_
  obtain ⟨t21, H21, H⟩ := bind_some H
  refine cl ha (by rfl) (by kernel_rfl) (by rfl) (by rfl) (by rfl) (Pool_Free.walk w19 _ hM gO6 L6 t19.2.2 fO6 (fun _ h => ml h) ([97] : List UInt8) _ H21) ?_
  rintro _ w21 ⟨rfl, nf21, hc21, hMn⟩ a ha
  have o1 : Ok L6 (L6 ++ (blkL ao4 ++ (M))) w19.heap.size := (fun _ h => .inl (ml h))
  have o2 : Ok (L6 ++ (blkL ao4 ++ (M))) (L6 ++ (blkL ao4 ++ (M))) w19.heap.size := (Ok.refl _ _)
  have f4 := f4.chg hc21 o1 o2 (fun x (hx : x ∈ blkL ao4) (hy : x ∈ L6) => p_i6_i4 x hy hx) (fun _ h => mr (ml h))
  have hM : MS (L6 ++ (blkL ao4 ++ (M))) w21 := (hM.chg hc21)
  have hC := hC.trans hc21 (fun x h => .inr (e_i6 x h))
  have fO6 := nf21
  refine seg ha 1 [(1, .slice ao4 t3.1.length cap4), (2, .int .i64 t3.2), (3, .pointer (some ⟨gO6, 0, none⟩)), (4, .int .i64 t6.2), (5, .int .i64 t15.1), (6, .int .i64 t15.2.1), (7, .int .i64 t17.1), (8, .int .i64 t17.2.1), (10, .int .i64 t19.2.1), (11, .bool t21.1)] (by kernel_rfl) fun a ha => ?_
  refine hK20 _ _ ?_; try clear hK20 K20
  refine wp_seq_k fun K22 hK22 => ?_
  refine wp_region_lit ?_
  refine seg ha 1 [(1, .slice ao4 t3.1.length cap4), (2, .int .i64 t3.2), (4, .int .i64 t6.2), (5, .int .i64 t15.1), (6, .int .i64 t15.2.1), (7, .int .i64 t17.1), (8, .int .i64 t17.2.1), (10, .int .i64 t19.2.1), (11, .bool t21.1), (42, .pointer (some ⟨gO6, 0, none⟩))] (by kernel_rfl) fun a ha => ?_
  obtain ⟨t23, H23, H⟩ := bind_some H
  refine cl ha (by rfl) (by kernel_rfl) (by rfl) (by rfl) (by rfl) (Pool_Take.walk w21 _ hM gO6 L6 t21.2 fO6 (fun _ h => ml h) ([99] : List UInt8) k _ H23) ?_
  rintro _ w23 ⟨rfl, nf23, hc23, hMn⟩ a ha
  have o1 : Ok L6 (L6 ++ (blkL ao4 ++ (M))) w21.heap.size := (fun _ h => .inl (ml h))
  have o2 : Ok (L6 ++ (blkL ao4 ++ (M))) (L6 ++ (blkL ao4 ++ (M))) w21.heap.size := (Ok.refl _ _)
  have f4 := f4.chg hc23 o1 o2 (fun x (hx : x ∈ blkL ao4) (hy : x ∈ L6) => p_i6_i4 x hy hx) (fun _ h => mr (ml h))
  have hM : MS (L6 ++ (blkL ao4 ++ (M))) w23 := (hM.chg hc23)
  have hC := hC.trans hc23 (fun x h => .inr (e_i6 x h))
  have fO6 := nf23
  refine seg ha 5 [(1, .slice ao4 t3.1.length cap4), (2, .int .i64 t3.2), (4, .int .i64 t6.2), (5, .int .i64 t15.1), (6, .int .i64 t15.2.1), (7, .int .i64 t17.1), (8, .int .i64 t17.2.1), (10, .int .i64 t19.2.1), (11, .bool t21.1), (12, .int .i64 t23.1), (13, .int .i64 t23.2.1)] (by kernel_rfl) fun a ha => ?_
  refine hK22 _ _ ?_; try clear hK22 K22
  refine wp_seq_k fun K24 hK24 => ?_
  refine wp_region_lit ?_
  obtain ⟨s25, H25, H⟩ := bind_some H
  have J25 : ∀ (a : Act) (w25 : World), Has a Try.f8.ntmps [(0, .bool s25)] → (Chg [] w w25) → (MS (M) w25) → K24 a w25 := by
   intro a w25 ha hC hM
   refine hK24 _ _ ?_; try clear hK24 K24
   refine wp_ret ?_
   try simp only [Exit.then, Exit.inBlock]
   obtain rfl := Option.some.inj H
   refine rt1 ha rfl rfl ?_
   exact ⟨rfl, hC, hM⟩
  have H := H25
  refine seg ha 3 [(48, .bool (t3.2 == (0 : Int))), (1, .slice ao4 t3.1.length cap4), (4, .int .i64 t6.2), (5, .int .i64 t15.1), (6, .int .i64 t15.2.1), (7, .int .i64 t17.1), (8, .int .i64 t17.2.1), (10, .int .i64 t19.2.1), (11, .bool t21.1), (12, .int .i64 t23.1), (13, .int .i64 t23.2.1)] (by kernel_rfl) fun a ha => ?_
  rcases Bool.eq_false_or_eq_true (t3.2 == (0 : Int)) with hb26 | hb26
  ·have ha := ha.lit hb26
   have H := ite_t hb26 H
   refine sgh ha 1 [2] [(4, .int .i64 t6.2), (5, .int .i64 t15.1), (6, .int .i64 t15.2.1), (7, .int .i64 t17.1), (8, .int .i64 t17.2.1), (10, .int .i64 t19.2.1), (11, .bool t21.1), (12, .int .i64 t23.1), (13, .int .i64 t23.2.1), (48, .bool true), (49, .slice ao4 t3.1.length cap4)] (by kernel_rfl) fun a ha => ?_
   refine cvs ha rfl (by kernel_rfl) (by kernel_rfl) (by kernel_rfl) rfl rfl rfl (Own.toRSl (M' := []) f4 (Ok.nil _ _) (fun _ _ h => nomatch h)) fun a ha => ?_
   refine sgh ha 3 [2, 3, 0] [(53, .bool ((bstr (b2s t3.1)).toList == (bstr ([0, 1, 1] : List UInt8)).toList)), (4, .int .i64 t6.2), (5, .int .i64 t15.1), (6, .int .i64 t15.2.1), (7, .int .i64 t17.1), (8, .int .i64 t17.2.1), (10, .int .i64 t19.2.1), (11, .bool t21.1), (12, .int .i64 t23.1), (13, .int .i64 t23.2.1)] (by kernel_rfl) fun a ha => ?_
   rcases Bool.eq_false_or_eq_true ((bstr (b2s t3.1)).toList == (bstr ([0, 1, 1] : List UInt8)).toList) with hb27 | hb27
   ·have ha := ha.lit hb27
    have H := ite_t hb27 H
    refine sgh ha 4 [2, 2, 3, 0] [(57, .bool (t6.2 == (0 : Int))), (5, .int .i64 t15.1), (6, .int .i64 t15.2.1), (7, .int .i64 t17.1), (8, .int .i64 t17.2.1), (10, .int .i64 t19.2.1), (11, .bool t21.1), (12, .int .i64 t23.1), (13, .int .i64 t23.2.1)] (by kernel_rfl) fun a ha => ?_
    rcases Bool.eq_false_or_eq_true (t6.2 == (0 : Int)) with hb28 | hb28
    ·have ha := ha.lit hb28
     have H := ite_t hb28 H
     refine sgh ha 4 [2, 2, 3, 0] [(61, .bool (t15.2.1 == (0 : Int))), (5, .int .i64 t15.1), (7, .int .i64 t17.1), (8, .int .i64 t17.2.1), (10, .int .i64 t19.2.1), (11, .bool t21.1), (12, .int .i64 t23.1), (13, .int .i64 t23.2.1)] (by kernel_rfl) fun a ha => ?_
     rcases Bool.eq_false_or_eq_true (t15.2.1 == (0 : Int)) with hb29 | hb29
     ·have ha := ha.lit hb29
      have H := ite_t hb29 H
      refine sgh ha 4 [2, 2, 3, 0] [(65, .bool (t15.1 == (16 : Int))), (7, .int .i64 t17.1), (8, .int .i64 t17.2.1), (10, .int .i64 t19.2.1), (11, .bool t21.1), (12, .int .i64 t23.1), (13, .int .i64 t23.2.1)] (by kernel_rfl) fun a ha => ?_
      rcases Bool.eq_false_or_eq_true (t15.1 == (16 : Int)) with hb30 | hb30
      ·have ha := ha.lit hb30
       have H := ite_t hb30 H
       refine sgh ha 4 [2, 2, 3, 0] [(69, .bool (t17.2.1 == (0 : Int))), (7, .int .i64 t17.1), (10, .int .i64 t19.2.1), (11, .bool t21.1), (12, .int .i64 t23.1), (13, .int .i64 t23.2.1)] (by kernel_rfl) fun a ha => ?_
       rcases Bool.eq_false_or_eq_true (t17.2.1 == (0 : Int)) with hb31 | hb31
       ·have ha := ha.lit hb31
        have H := ite_t hb31 H
        refine sgh ha 4 [2, 2, 3, 0] [(73, .bool (t17.1 == (17 : Int))), (10, .int .i64 t19.2.1), (11, .bool t21.1), (12, .int .i64 t23.1), (13, .int .i64 t23.2.1)] (by kernel_rfl) fun a ha => ?_
        rcases Bool.eq_false_or_eq_true (t17.1 == (17 : Int)) with hb32 | hb32
        ·have ha := ha.lit hb32
         have H := ite_t hb32 H
         refine sgh ha 4 [2, 2, 3, 0] [(77, .bool (t19.2.1 == (6 : Int))), (11, .bool t21.1), (12, .int .i64 t23.1), (13, .int .i64 t23.2.1)] (by kernel_rfl) fun a ha => ?_
         rcases Bool.eq_false_or_eq_true (t19.2.1 == (6 : Int)) with hb33 | hb33
         ·have ha := ha.lit hb33
          have H := ite_t hb33 H
          refine sgh ha 3 [2, 3, 0] [(80, .bool t21.1), (12, .int .i64 t23.1), (13, .int .i64 t23.2.1)] (by kernel_rfl) fun a ha => ?_
          rcases Bool.eq_false_or_eq_true (t21.1) with hb34 | hb34
          ·have ha := ha.lit hb34
           have H := ite_t hb34 H
           refine sgh ha 4 [2, 2, 3, 0] [(84, .bool (t23.2.1 == (0 : Int))), (12, .int .i64 t23.1)] (by kernel_rfl) fun a ha => ?_
           rcases Bool.eq_false_or_eq_true (t23.2.1 == (0 : Int)) with hb35 | hb35
           ·have ha := ha.lit hb35
            have H := ite_t hb35 H
            refine sgh ha 4 [2, 2, 3, 0] [(0, .bool (t23.1 == (16 : Int)))] (by kernel_rfl) fun a ha => ?_
            obtain rfl := Option.some.inj H
            have hM : MS (M) w23 := (fun x h => hM.chg (Chg.refl [] _) x (mr (mr (h))))
            have hC := hC.trans (Chg.refl [] _) (Ok.nil _ _)
            exact J25 _ _ (ha.sel (by kernel_rfl)) hC hM
           ·have ha := ha.lit hb35
            have H := ite_f hb35 H
            refine sgh ha 4 [1, 1, 4, 0] [(0, .bool false)] (by kernel_rfl) fun a ha => ?_
            obtain rfl := Option.some.inj H
            have hM : MS (M) w23 := (fun x h => hM.chg (Chg.refl [] _) x (mr (mr (h))))
            have hC := hC.trans (Chg.refl [] _) (Ok.nil _ _)
            exact J25 _ _ (ha.sel (by kernel_rfl)) hC hM
          ·have ha := ha.lit hb34
           have H := ite_f hb34 H
           refine sgh ha 8 [1, 1, 4, 0, 1, 1, 4, 0] [(0, .bool false)] (by kernel_rfl) fun a ha => ?_
           obtain rfl := Option.some.inj H
           have hM : MS (M) w23 := (fun x h => hM.chg (Chg.refl [] _) x (mr (mr (h))))
           have hC := hC.trans (Chg.refl [] _) (Ok.nil _ _)
           exact J25 _ _ (ha.sel (by kernel_rfl)) hC hM
         ·have ha := ha.lit hb33
          have H := ite_f hb33 H
          refine sgh ha 11 [1, 4, 0, 1, 1, 4, 0, 1, 1, 4, 0] [(0, .bool false)] (by kernel_rfl) fun a ha => ?_
          obtain rfl := Option.some.inj H
          have hM : MS (M) w23 := (fun x h => hM.chg (Chg.refl [] _) x (mr (mr (h))))
          have hC := hC.trans (Chg.refl [] _) (Ok.nil _ _)
          exact J25 _ _ (ha.sel (by kernel_rfl)) hC hM
        ·have ha := ha.lit hb32
         have H := ite_f hb32 H
         refine sgh ha 15 [1, 1, 4, 0, 1, 4, 0, 1, 1, 4, 0, 1, 1, 4, 0] [(0, .bool false)] (by kernel_rfl) fun a ha => ?_
         obtain rfl := Option.some.inj H
         have hM : MS (M) w23 := (fun x h => hM.chg (Chg.refl [] _) x (mr (mr (h))))
         have hC := hC.trans (Chg.refl [] _) (Ok.nil _ _)
         exact J25 _ _ (ha.sel (by kernel_rfl)) hC hM
       ·have ha := ha.lit hb31
        have H := ite_f hb31 H
        refine sgh ha 19 [1, 1, 4, 0, 1, 1, 4, 0, 1, 4, 0, 1, 1, 4, 0, 1, 1, 4, 0] [(0, .bool false)] (by kernel_rfl) fun a ha => ?_
        obtain rfl := Option.some.inj H
        have hM : MS (M) w23 := (fun x h => hM.chg (Chg.refl [] _) x (mr (mr (h))))
        have hC := hC.trans (Chg.refl [] _) (Ok.nil _ _)
        exact J25 _ _ (ha.sel (by kernel_rfl)) hC hM
      ·have ha := ha.lit hb30
       have H := ite_f hb30 H
       refine sgh ha 23 [1, 1, 4, 0, 1, 1, 4, 0, 1, 1, 4, 0, 1, 4, 0, 1, 1, 4, 0, 1, 1, 4, 0] [(0, .bool false)] (by kernel_rfl) fun a ha => ?_
       obtain rfl := Option.some.inj H
       have hM : MS (M) w23 := (fun x h => hM.chg (Chg.refl [] _) x (mr (mr (h))))
       have hC := hC.trans (Chg.refl [] _) (Ok.nil _ _)
       exact J25 _ _ (ha.sel (by kernel_rfl)) hC hM
     ·have ha := ha.lit hb29
      have H := ite_f hb29 H
      refine sgh ha 27 [1, 1, 4, 0, 1, 1, 4, 0, 1, 1, 4, 0, 1, 1, 4, 0, 1, 4, 0, 1, 1, 4, 0, 1, 1, 4, 0] [(0, .bool false)] (by kernel_rfl) fun a ha => ?_
      obtain rfl := Option.some.inj H
      have hM : MS (M) w23 := (fun x h => hM.chg (Chg.refl [] _) x (mr (mr (h))))
      have hC := hC.trans (Chg.refl [] _) (Ok.nil _ _)
      exact J25 _ _ (ha.sel (by kernel_rfl)) hC hM
    ·have ha := ha.lit hb28
     have H := ite_f hb28 H
     refine sgh ha 31 [1, 1, 4, 0, 1, 1, 4, 0, 1, 1, 4, 0, 1, 1, 4, 0, 1, 1, 4, 0, 1, 4, 0, 1, 1, 4, 0, 1, 1, 4, 0] [(0, .bool false)] (by kernel_rfl) fun a ha => ?_
     obtain rfl := Option.some.inj H
     have hM : MS (M) w23 := (fun x h => hM.chg (Chg.refl [] _) x (mr (mr (h))))
     have hC := hC.trans (Chg.refl [] _) (Ok.nil _ _)
     exact J25 _ _ (ha.sel (by kernel_rfl)) hC hM
   ·have ha := ha.lit hb27
    have H := ite_f hb27 H
    refine sgh ha 35 [1, 1, 4, 0, 1, 1, 4, 0, 1, 1, 4, 0, 1, 1, 4, 0, 1, 1, 4, 0, 1, 1, 4, 0, 1, 4, 0, 1, 1, 4, 0, 1, 1, 4, 0] [(0, .bool false)] (by kernel_rfl) fun a ha => ?_
    obtain rfl := Option.some.inj H
    have hM : MS (M) w23 := (fun x h => hM.chg (Chg.refl [] _) x (mr (mr (h))))
    have hC := hC.trans (Chg.refl [] _) (Ok.nil _ _)
    exact J25 _ _ (ha.sel (by kernel_rfl)) hC hM
  ·have ha := ha.lit hb26
   have H := ite_f hb26 H
   refine sgh ha 40 [1, 1, 1, 4, 0, 1, 1, 4, 0, 1, 1, 4, 0, 1, 1, 4, 0, 1, 1, 4, 0, 1, 1, 4, 0, 1, 1, 4, 0, 1, 4, 0, 1, 1, 4, 0, 1, 1, 4, 0] [(0, .bool false)] (by kernel_rfl) fun a ha => ?_
   obtain rfl := Option.some.inj H
   have hM : MS (M) w23 := (fun x h => hM.chg (Chg.refl [] _) x (mr (mr (h))))
   have hC := hC.trans (Chg.refl [] _) (Ok.nil _ _)
   exact J25 _ _ (ha.sel (by kernel_rfl)) hC hM

theorem Lent.go (w : World) (M : List Nat) (hM : MS M w) (a0 : List Int) (ao1 : Option Addr) (cap1 : Nat) (f1 : RSl (rInt .u8) 5 w M ao1 cap1 a0) (hb : a0.length ≤ 281474976710655) :
    To Try.prog 23 [.slice ao1 a0.length cap1] w fun v w' => ∃ (g : Nat), v = .slice (some ⟨g, 0, none⟩) a0.length (a0.length + 1) ∧ Box w' g (a0.map (.int .u8) ++ [.int .u8 77]) ∧ (w.heap.size ≤ g) ∧ Chg [] w w' ∧ MS ([g] ++ M) w' := by
  have hmax : maxLen = 9223372036854775807 := rfl
  refine ent Try.func23 rfl [(0, .slice ao1 a0.length cap1)] rfl rfl fun a ha => ?_
  refine wp_seq_k fun K hK => ?_
  refine wp_region_lit ?_
  refine seg ha 1 [(0, .slice ao1 a0.length cap1)] (by kernel_rfl) fun a ha => ?_
  refine hK _ _ ?_; clear hK K
  refine wp_seq_k fun K hK => ?_
  refine wp_region_lit ?_
  refine seg ha 5 [(0, .slice ao1 a0.length cap1), (5, .int .i64 a0.length), (8, .int .i64 (IntKind.i64.wrap ((a0.length : Int) + 1)))] (by kernel_rfl) fun a ha => ?_
  have e8 : IntKind.i64.wrap ((a0.length : Int) + 1) = ((a0.length + 1 : Nat) : Int) := by rw [IntKind.wrap_i64]; omega
  rw [e8] at ha
  refine mks (e := 5) (z := .int .u8 0) (nb := 1) ha (by kernel_rfl) (by kernel_rfl) (by kernel_rfl) rfl rfl rfl (Nat.le_succ _) (by omega) (by omega) rfl rfl rfl fun a w1 g hN ha => ?_
  refine seg ha 1 [(0, .slice ao1 a0.length cap1), (3, .slice (some ⟨g, 0, none⟩) a0.length (a0.length + 1))] (by kernel_rfl) fun a ha => ?_
  refine hK _ _ ?_; clear hK K
  have h1 : RSl (rInt .u8) 5 w1 ([g] ++ M) ao1 cap1 a0 := f1.chg hN.chg (Ok.nil _ _) (Ok.app (hN.ok _) (Ok.refl _ _))
  refine wp_seq_k fun K hK => ?_
  refine wp_region_lit ?_
  refine seg ha 2 [(0, .slice ao1 a0.length cap1), (3, .slice (some ⟨g, 0, none⟩) a0.length (a0.length + 1)), (10, .slice (some ⟨g, 0, none⟩) a0.length (a0.length + 1)), (11, .slice ao1 a0.length cap1)] (by kernel_rfl) fun a ha => ?_
  refine cpy ha (by kernel_rfl) (by kernel_rfl) rfl rfl rfl rfl rfl hN.box h1 (Nat.le_refl _) (by simp) fun a w2 hB hc2 ha => ?_
  refine wpl_end ?_
  have ha := ha.sel (env' := [(0, .slice ao1 a0.length cap1), (3, .slice (some ⟨g, 0, none⟩) a0.length (a0.length + 1))]) (by kernel_rfl)
  refine hK _ _ ?_; clear hK K
  refine wp_seq_k fun K hK => ?_
  refine wp_region_lit ?_
  refine seg ha 4 [(0, .slice ao1 a0.length cap1), (3, .slice (some ⟨g, 0, none⟩) a0.length (a0.length + 1)), (13, .slice (some ⟨g, 0, none⟩) a0.length (a0.length + 1)), (16, .int .i64 (IntKind.i64.wrap ((a0.length : Int) + 1)))] (by kernel_rfl) fun a ha => ?_
  rw [e8] at ha
  refine slx (T := 5) (s := 1) ha (by kernel_rfl) (by kernel_rfl) rfl rfl (Nat.le_refl _) rfl rfl rfl fun a ha => ?_
  refine seg ha 2 [(3, .slice (some ⟨g, 0, none⟩) a0.length (a0.length + 1)), (17, .slice (some ⟨g, 0, none⟩) (a0.length + 1) (a0.length + 1)), (19, .int .i64 a0.length)] (by kernel_rfl) fun a ha => ?_
  have hl : (List.replicate (a0.length + 1) (0 : Int)).length = a0.length + 1 := by simp
  refine hop (v := .pointer (some ⟨g, 0 + Int.toNat (a0.length : Int) * (rInt .u8).sz, none⟩)) (w' := w2) ha rfl rfl rfl (ix_run (r := rInt .u8) (T := 5) (xs := List.replicate (a0.length + 1) (0 : Int)) (k := .i64) (i := (a0.length : Int)) ha (by kernel_rfl) (by kernel_rfl) (by rw [hl]; rfl) rfl rfl (by omega) (by rw [hl]; omega)) fun a ha => ?_
  refine st (cs := a0.map (.int .u8) ++ (List.replicate (a0.length + 1) (Value.int .u8 0)).drop a0.length) (g := g) (o' := a0.length) ha rfl rfl (by simp [rInt]) (by kernel_rfl) rfl rfl hB (by simp) fun a w3 ha hB3 hc3 _ => ?_
  refine wpl_end ?_
  have ha := ha.sel (env' := [(3, .slice (some ⟨g, 0, none⟩) a0.length (a0.length + 1))]) (by kernel_rfl)
  refine hK _ _ ?_; clear hK K
  refine wp_seq_k fun K hK => ?_
  refine wp_region_lit ?_
  refine seg ha 2 [(2, .slice (some ⟨g, 0, none⟩) a0.length (a0.length + 1))] (by kernel_rfl) fun a ha => ?_
  refine hK _ _ ?_; clear hK K
  refine wp_ret ?_
  refine rt1 ha rfl rfl ⟨g, rfl, ?_, hN.ge, ?_, ?_⟩
  · have e : (a0.map (Value.int .u8) ++ (List.replicate (a0.length + 1) (Value.int .u8 0)).drop a0.length).set a0.length (.int .u8 77) = a0.map (Value.int .u8) ++ [Value.int .u8 77] := by
      have : (List.replicate (a0.length + 1) (Value.int .u8 0)).drop a0.length = [Value.int .u8 0] := by simp [List.drop_replicate]
      rw [this, List.set_append_right _ _ (by simp)]
      simp
    rw [e] at hB3
    exact hB3
  · exact (hN.chg.trans hc2 (Ok.one (.inr hN.ge))).trans hc3 (Ok.one (.inr hN.ge))
  · exact MS.app (fun x hx => by simp at hx; subst hx; exact hB3.lt) (((hM.chg hN.chg).chg hc2).chg hc3)
def Lent.f (a0 : List Int) : Option (List Int) := if a0.length ≤ 281474976710655 then some a0 else none
theorem Lent.walk (w : World) (M : List Nat) (hM : MS M w) (a0 : List Int) (ao1 : Option Addr) (cap1 : Nat) (f1 : RSl (rInt .u8) 5 w M ao1 cap1 a0) (r : List Int) (H : Lent.f a0 = some r) :
    To Try.prog 23 [.slice ao1 a0.length cap1] w fun v w' => ∃ (ao2 : Option Addr) (cap2 : Nat), v = .slice ao2 r.length cap2 ∧ (Len w' (blkL ao2 ++ M) ao2 cap2 r) ∧ (∀ x ∈ blkL ao2, w.heap.size ≤ x) ∧ Chg [] w w' ∧ MS (blkL ao2 ++ M) w' := by
  unfold Lent.f at H
  obtain ⟨hb, H⟩ := ite_some H
  obtain rfl := Option.some.inj H
  refine (Lent.go w M hM a0 ao1 cap1 f1 hb).mono ?_
  rintro v w' ⟨g, rfl, hB, hge, hc, hm⟩
  exact ⟨some ⟨g, 0, none⟩, a0.length + 1, rfl, ⟨g, rfl, List.mem_append_left _ (List.mem_singleton.2 rfl), rfl, hb, hB⟩, fun x hx => by simp [blkL] at hx; subst hx; exact hge, hc, hm⟩

def cursor_Open.f (a0 : List Int) : Option (S_cursor_Reader) := (bytes_Clone.f a0).bind fun t4 => some (((⟨(⟨t4, false⟩ : S_cursor_rest)⟩ : S_cursor_Reader) : S_cursor_Reader))
set_option maxRecDepth 100000 in
theorem cursor_Open.walk (w : World) (M : List Nat) (hM : MS M w) (a0 : List Int) (ao1 : Option Addr) (cap1 : Nat) (f1 : RSl (rInt .u8) 5 w M ao1 cap1 a0) (r : S_cursor_Reader) (H : cursor_Open.f a0 = some r) :
    To Try.prog 32 [.slice ao1 a0.length cap1] w fun v w' => ∃ (g10 : Nat) (ao12 : Option Addr) (cap12 : Nat), v = .pointer (some ⟨g10, 0, none⟩) ∧ (RSl (rInt .u8) 5 w' ([g10] ++ (M)) ao12 cap12 r.rest.left) ∧ (Box w' g10 (cS_cursor_Reader r ao12 cap12)) ∧ (∀ x ∈ [g10], w.heap.size ≤ x) ∧ Chg [] w w' ∧ MS ([g10] ++ (M)) w' := by
 unfold cursor_Open.f at H
 refine ent Try.func32 rfl [(0, .slice ao1 a0.length cap1)] rfl (by rfl) fun a ha => ?_
 have hC : Chg [] w w := Chg.refl _ _
 refine wp_seq_k fun K2 hK2 => ?_
 refine wp_region_lit ?_
 refine seg ha 1 [(0, .slice ao1 a0.length cap1)] (by kernel_rfl) fun a ha => ?_
 refine hK2 _ _ ?_; try clear hK2 K2
 refine wp_seq_k fun K3 hK3 => ?_
 refine wp_region_lit ?_
 refine seg ha 1 [(3, .slice ao1 a0.length cap1)] (by kernel_rfl) fun a ha => ?_
 obtain ⟨t4, H4, H⟩ := bind_some H
 refine cl ha (by rfl) (by kernel_rfl) (by rfl) (by rfl) (by rfl) (bytes_Clone.walk w _ hM a0 ao1 cap1 f1 _ H4) ?_
 rintro _ w4 ⟨ao5, cap5, rfl, f5, ne_i5, hc4, hMn⟩ a ha
 have o1 : Ok [] (M) w.heap.size := Ok.nil _ _
 have o2 : Ok (blkL ao5 ++ (M)) (M) w.heap.size := (Ok.app (fun x h => .inr (ne_i5 x h)) (Ok.refl _ _))
 have f1 := f1.chg hc4 o1 o2
 have p_i5_M : ∀ x ∈ blkL ao5, x ∉ M := fun x hx hy => absurd (hM x (hy)) (Nat.not_lt.2 (ne_i5 x hx))
 have e_i5 : ∀ x ∈ blkL ao5, w.heap.size ≤ x := fun x hx => Nat.le_trans hC.size (ne_i5 x hx)
 have hM : MS (blkL ao5 ++ (M)) w4 := (MS.app (fun x h => hMn x (ml h)) (hM.chg hc4))
 have hC := hC.trans hc4 (Ok.nil _ _)
 refine opk (v := .agg (cS_cursor_rest (⟨t4, false⟩ : S_cursor_rest) ao5 cap5).toArray) ha rfl rfl rfl rfl rfl (fun w => by kernel_rfl) fun a ha => ?_
 refine opk (v := .agg (cS_cursor_Reader (⟨(⟨t4, false⟩ : S_cursor_rest)⟩ : S_cursor_Reader) ao5 cap5).toArray) ha rfl rfl rfl rfl rfl (fun w => by kernel_rfl) fun a ha => ?_
 have fz := f5.toRSl (M' := M) (fun _ h => .inl (mr (h))) (fun x hx hm => p_i5_M x hx hm)
 have hM : MS (M) w4 := (fun x h => hM.chg (Chg.refl [] _) x (mr (h)))
 have hC := hC.trans (Chg.refl [] _) (Ok.nil _ _)
 have f5 := fz
 refine bx (cs := (cS_cursor_Reader (⟨(⟨t4, false⟩ : S_cursor_rest)⟩ : S_cursor_Reader) ao5 cap5)) ha rfl rfl rfl rfl rfl fun a w6 g7 hN8 ha => ?_
 have o1 : Ok [] (M) w4.heap.size := Ok.nil _ _
 have o2 : Ok ([g7] ++ (M)) (M) w4.heap.size := (Ok.app (hN8.ok _) (Ok.refl _ _))
 have f5 := f5.chg hN8.chg o1 o2
 have p_i9_M : ∀ x ∈ [g7], x ∉ M := fun x hx hy => absurd (hM x (hy)) (Nat.not_lt.2 ((hN8.ge1) x hx))
 have e_i9 : ∀ x ∈ [g7], w.heap.size ≤ x := fun x hx => Nat.le_trans hC.size ((hN8.ge1) x hx)
 have hM : MS ([g7] ++ (M)) w6 := (MS.app hN8.ms (hM.chg hN8.chg))
 have hC := hC.trans hN8.chg (Ok.nil _ _)
 have hBg7 : Box w6 g7 (cS_cursor_Reader (⟨(⟨t4, false⟩ : S_cursor_rest)⟩ : S_cursor_Reader) ao5 cap5) := hN8.box
 refine seg ha 1 [(2, .pointer (some ⟨g7, 0, none⟩))] (by kernel_rfl) fun a ha => ?_
 refine hK3 _ _ ?_; try clear hK3 K3
 refine wp_ret ?_
 try simp only [Exit.then, Exit.inBlock]
 obtain rfl := Option.some.inj H
 refine rt1 ha rfl rfl ?_
 exact ⟨g7, ao5, cap5, rfl, f5, hBg7, e_i9, hC, hM⟩
def cursor_rest_next.f (a0 : S_cursor_rest) (a1 : Int) : Option (List Int × S_cursor_rest) := ((if a0.bad = true then some (true : Bool) else (if (decide (a1 < (0 : Int))) = true then some (true : Bool) else some (decide (a1 > (a0.left.length : Int)) : Bool)))).bind fun s5 => (if s5 = true then some ((([] : List Int) : List Int), ((⟨a0.left, true⟩ : S_cursor_rest) : S_cursor_rest)) else (if 0 ≤ (0 : Int) ∧ (0 : Int) ≤ a1 ∧ a1 ≤ (a0.left.length : Int) then (if 0 ≤ a1 ∧ a1 ≤ (a0.left.length : Int) ∧ (a0.left.length : Int) ≤ (a0.left.length : Int) then some ((((a0.left.take (Int.toNat a1)).drop (Int.toNat (0 : Int))) : List Int), ((⟨((a0.left.take (Int.toNat (a0.left.length : Int))).drop (Int.toNat a1)), a0.bad⟩ : S_cursor_rest) : S_cursor_rest)) else none) else none))
set_option maxRecDepth 100000 in
theorem cursor_rest_next.walk (w : World) (M : List Nat) (hM : MS M w) (gp0 : Nat) (a0 : S_cursor_rest) (ao1 : Option Addr) (cap1 : Nat) (f1 : RSl (rInt .u8) 5 w M ao1 cap1 a0.left) (hBgp0 : Box w gp0 (cS_cursor_rest a0 ao1 cap1)) (hg_gp0 : gp0 ∈ M) (a1 : Int) (r : List Int × S_cursor_rest) (H : cursor_rest_next.f a0 a1 = some r) :
    To Try.prog 37 [.pointer (some ⟨gp0, 0, none⟩), .int .i64 a1] w fun v w' => ∃ (ao22 : Option Addr) (cap22 : Nat) (ao23 : Option Addr) (cap23 : Nat), v = .slice ao22 r.1.length cap22 ∧ (RSl (rInt .u8) 5 w' (M) ao22 cap22 r.1) ∧ (RSl (rInt .u8) 5 w' (M) ao23 cap23 r.2.left) ∧ (Box w' gp0 (cS_cursor_rest r.2 ao23 cap23)) ∧ Chg [gp0] w w' ∧ MS (M) w' := by
 unfold cursor_rest_next.f at H
 refine ent Try.func37 rfl [(0, .pointer (some ⟨gp0, 0, none⟩)), (1, .int .i64 a1)] rfl (by rfl) fun a ha => ?_
 have hC : Chg [gp0] w w := Chg.refl _ _
 refine wp_seq_k fun K2 hK2 => ?_
 refine wp_region_lit ?_
 refine seg ha 1 [(0, .pointer (some ⟨gp0, 0, none⟩)), (1, .int .i64 a1)] (by kernel_rfl) fun a ha => ?_
 refine hK2 _ _ ?_; try clear hK2 K2
 refine wp_seq_k fun K3 hK3 => ?_
 refine wp_seq_k fun K4 hK4 => ?_
 refine wp_region_lit ?_
 obtain ⟨s5, H5, H⟩ := bind_some H
 have J5 : ∀ (a : Act) (w5 : World), Has a Try.f37.ntmps [(0, .pointer (some ⟨gp0, 0, none⟩)), (1, .int .i64 a1), (22, .bool s5)] → (RSl (rInt .u8) 5 w5 (M) ao1 cap1 a0.left) → (Box w5 gp0 (cS_cursor_rest a0 ao1 cap1)) → (Chg [gp0] w w5) → (MS (M) w5) → K4 a w5 := by
  intro a w5 ha f1 hBgp0 hC hM
  refine hK4 _ _ ?_; try clear hK4 K4
  refine cnd ha rfl (fun hc6 => ?_) (fun hc6 => ?_)
  ·have H := ite_t hc6 H
   refine wp_seq_k fun K7 hK7 => ?_
   refine wp_region_lit ?_
   refine seg ha 3 [(25, .pointer (some ⟨gp0, 1, none⟩))] (by kernel_rfl) fun a ha => ?_
   refine st ha rfl rfl rfl (by kernel_rfl) rfl rfl hBgp0 (Nat.le_of_ble_eq_true (by kernel_rfl)) fun a w8 ha hb2 hc9 _ => ?_
   have o1 : Ok [gp0] (M) w5.heap.size := Ok.one (.inl (hg_gp0))
   have o2 : Ok (M) (M) w5.heap.size := (Ok.refl _ _)
   have f1 := f1.chg hc9 o1 o2
   have hM : MS (M) w8 := (hM.chg hc9)
   have hC := hC.trans hc9 (Ok.one (.inl (by simp)))
   have hBgp0 : Box w8 gp0 (cS_cursor_rest (⟨a0.left, true⟩ : S_cursor_rest) ao1 cap1) := hb2
   refine hK7 _ _ ?_; try clear hK7 K7
   refine wp_seq_k fun K10 hK10 => ?_
   refine wp_region_lit ?_
   refine seg ha 1 [(4, .slice none 0 0)] (by kernel_rfl) fun a ha => ?_
   refine hK10 _ _ ?_; try clear hK10 K10
   refine wp_ret ?_
   try simp only [Exit.then, Exit.inBlock]
   obtain rfl := Option.some.inj H
   refine rt1 ha rfl rfl ?_
   exact ⟨none, 0, ao1, cap1, rfl, (RSl.nil (Nat.zero_le _)), f1, hBgp0, hC, hM⟩
  ·have H := ite_f hc6 H
   refine wp_skip ?_
   refine hK3 _ _ ?_; try clear hK3 K3
   refine wp_seq_k fun K11 hK11 => ?_
   refine wp_region_lit ?_
   refine seg ha 3 [(0, .pointer (some ⟨gp0, 0, none⟩)), (1, .int .i64 a1), (28, .pointer (some ⟨gp0, 0, none⟩))] (by kernel_rfl) fun a ha => ?_
   refine ld (v := .slice ao1 a0.left.length cap1) ha rfl (by kernel_rfl) rfl rfl rfl (hBgp0.cell' (o := 0) rfl (by kernel_rfl)) fun a ha => ?_
   refine seg ha 1 [(0, .pointer (some ⟨gp0, 0, none⟩)), (1, .int .i64 a1), (29, .slice ao1 a0.left.length cap1), (30, .int .i64 a1)] (by kernel_rfl) fun a ha => ?_
   obtain ⟨⟨hx12, hx12', hx12''⟩, H⟩ := ite_some H
   refine slc (r := (rInt .u8)) (l := (0 : Int)) (h := a1) ha (by kernel_rfl) (by kernel_rfl) rfl rfl rfl rfl rfl rfl f1 hx12 hx12' hx12'' fun a ao13 cap13 f13 ha => ?_
   refine seg ha 1 [(0, .pointer (some ⟨gp0, 0, none⟩)), (1, .int .i64 a1), (5, .slice ao13 ((a0.left.take (Int.toNat a1)).drop (Int.toNat (0 : Int))).length cap13)] (by kernel_rfl) fun a ha => ?_
   refine hK11 _ _ ?_; try clear hK11 K11
   refine wp_seq_k fun K14 hK14 => ?_
   refine wp_region_lit ?_
   refine seg ha 4 [(1, .int .i64 a1), (5, .slice ao13 ((a0.left.take (Int.toNat a1)).drop (Int.toNat (0 : Int))).length cap13), (32, .pointer (some ⟨gp0, 0, none⟩)), (35, .pointer (some ⟨gp0, 0, none⟩))] (by kernel_rfl) fun a ha => ?_
   refine ld (v := .slice ao1 a0.left.length cap1) ha rfl (by kernel_rfl) rfl rfl rfl (hBgp0.cell' (o := 0) rfl (by kernel_rfl)) fun a ha => ?_
   refine seg ha 1 [(5, .slice ao13 ((a0.left.take (Int.toNat a1)).drop (Int.toNat (0 : Int))).length cap13), (32, .pointer (some ⟨gp0, 0, none⟩)), (36, .slice ao1 a0.left.length cap1), (37, .int .i64 a1)] (by kernel_rfl) fun a ha => ?_
   obtain ⟨⟨hx15, hx15', hx15''⟩, H⟩ := ite_some H
   refine slc (r := (rInt .u8)) (l := a1) (h := (a0.left.length : Int)) ha (by kernel_rfl) (by kernel_rfl) rfl rfl rfl rfl rfl rfl f1 hx15 hx15' hx15'' fun a ao16 cap16 f16 ha => ?_
   refine seg ha 2 [(5, .slice ao13 ((a0.left.take (Int.toNat a1)).drop (Int.toNat (0 : Int))).length cap13), (38, .slice ao16 ((a0.left.take (Int.toNat (a0.left.length : Int))).drop (Int.toNat a1)).length cap16), (40, .pointer (some ⟨gp0, 0, none⟩))] (by kernel_rfl) fun a ha => ?_
   refine st ha rfl rfl rfl (by kernel_rfl) rfl rfl hBgp0 (Nat.le_of_ble_eq_true (by kernel_rfl)) fun a w17 ha hb2 hc18 _ => ?_
   have o1 : Ok [gp0] (M) w5.heap.size := Ok.one (.inl (hg_gp0))
   have o2 : Ok (M) (M) w5.heap.size := (Ok.refl _ _)
   have f13 := f13.chg hc18 o1 o2
   have f16 := f16.chg hc18 o1 o2
   have f1 := f1.chg hc18 o1 o2
   have hM : MS (M) w17 := (hM.chg hc18)
   have hC := hC.trans hc18 (Ok.one (.inl (by simp)))
   have hBgp0 : Box w17 gp0 (cS_cursor_rest (⟨((a0.left.take (Int.toNat (a0.left.length : Int))).drop (Int.toNat a1)), a0.bad⟩ : S_cursor_rest) ao16 cap16) := hb2
   refine hK14 _ _ ?_; try clear hK14 K14
   refine wp_seq_k fun K19 hK19 => ?_
   refine wp_region_lit ?_
   refine seg ha 2 [(4, .slice ao13 ((a0.left.take (Int.toNat a1)).drop (Int.toNat (0 : Int))).length cap13)] (by kernel_rfl) fun a ha => ?_
   refine hK19 _ _ ?_; try clear hK19 K19
   refine wp_ret ?_
   try simp only [Exit.then, Exit.inBlock]
   obtain rfl := Option.some.inj H
   refine rt1 ha rfl rfl ?_
   exact ⟨ao13, cap13, ao16, cap16, rfl, f13, f16, hBgp0, hC, hM⟩
 have H := H5
 refine seg ha 3 [(0, .pointer (some ⟨gp0, 0, none⟩)), (1, .int .i64 a1), (8, .pointer (some ⟨gp0, 1, none⟩))] (by kernel_rfl) fun a ha => ?_
 refine ld (v := .bool a0.bad) ha rfl (by kernel_rfl) rfl rfl rfl (hBgp0.cell' (o := 1) rfl (by kernel_rfl)) fun a ha => ?_
 refine seg ha 1 [(10, .bool a0.bad), (0, .pointer (some ⟨gp0, 0, none⟩)), (1, .int .i64 a1)] (by kernel_rfl) fun a ha => ?_
 rcases Bool.eq_false_or_eq_true (a0.bad) with hb20 | hb20
 ·have ha := ha.lit hb20
  have H := ite_t hb20 H
  refine sgh ha 12 [1, 1, 3, 0, 1, 1, 1, 1, 1, 1, 1, 3] [(0, .pointer (some ⟨gp0, 0, none⟩)), (1, .int .i64 a1), (22, .bool true)] (by kernel_rfl) fun a ha => ?_
  obtain rfl := Option.some.inj H
  exact J5 _ _ (ha.sel (by kernel_rfl)) f1 hBgp0 hC hM
 ·have ha := ha.lit hb20
  have H := ite_f hb20 H
  refine sgh ha 4 [2, 2, 4, 0] [(14, .bool (decide (a1 < (0 : Int)))), (0, .pointer (some ⟨gp0, 0, none⟩)), (1, .int .i64 a1)] (by kernel_rfl) fun a ha => ?_
  rcases Bool.eq_false_or_eq_true (decide (a1 < (0 : Int))) with hb21 | hb21
  ·have ha := ha.lit hb21
   have H := ite_t hb21 H
   refine sgh ha 8 [1, 1, 1, 1, 1, 1, 1, 3] [(0, .pointer (some ⟨gp0, 0, none⟩)), (1, .int .i64 a1), (22, .bool true)] (by kernel_rfl) fun a ha => ?_
   obtain rfl := Option.some.inj H
   exact J5 _ _ (ha.sel (by kernel_rfl)) f1 hBgp0 hC hM
  ·have ha := ha.lit hb21
   have H := ite_f hb21 H
   refine sgh ha 4 [2, 2, 2, 2] [(0, .pointer (some ⟨gp0, 0, none⟩)), (1, .int .i64 a1), (14, .bool false), (15, .int .i64 a1), (18, .pointer (some ⟨gp0, 0, none⟩))] (by kernel_rfl) fun a ha => ?_
   refine ld (v := .slice ao1 a0.left.length cap1) ha rfl (by kernel_rfl) rfl rfl rfl (hBgp0.cell' (o := 0) rfl (by kernel_rfl)) fun a ha => ?_
   refine sgh ha 3 [2, 2, 4] [(0, .pointer (some ⟨gp0, 0, none⟩)), (1, .int .i64 a1), (22, .bool (decide (a1 > (a0.left.length : Int))))] (by kernel_rfl) fun a ha => ?_
   obtain rfl := Option.some.inj H
   exact J5 _ _ (ha.sel (by kernel_rfl)) f1 hBgp0 hC hM
def cursor_Reader_Num.l0 (t8 : List Int × S_cursor_rest) : Nat → Int → Int → Option (Int)
  | 0, _, _ => none
  | kk + 1, x12, x13 => (if (decide (x13 < (t8.1.length : Int))) = true then (if 0 ≤ x13 ∧ x13 < (t8.1.length : Int) then cursor_Reader_Num.l0 t8 kk (IntKind.i64.wrap (BitVec.ofInt IntKind.i64.bits (IntKind.i64.wrap (x12 * 2 ^ (min (8 : Int).toNat IntKind.i64.bits))) ||| BitVec.ofInt IntKind.i64.bits (IntKind.i64.wrap (rd t8.1 x13))).toNat) (IntKind.i64.wrap (x13 + (1 : Int))) else none) else some (x12 : Int))
def cursor_Reader_Num.f (k : Nat) (a0 : S_cursor_Reader) (a1 : Int) : Option (Int × S_cursor_Reader) := ((if (if (decide (a1 < (1 : Int))) = true then true else (decide (a1 > (4 : Int)))) = true then some ((-1 : Int) : Int) else some (a1 : Int))).bind fun s4 => (cursor_rest_next.f a0.rest s4).bind fun t8 => (cursor_Reader_Num.l0 t8 k (0 : Int) (0 : Int)).bind fun s11 => some ((s11 : Int), ((⟨t8.2⟩ : S_cursor_Reader) : S_cursor_Reader))
set_option maxRecDepth 100000 in
theorem cursor_Reader_Num.walk (w : World) (M : List Nat) (hM : MS M w) (gp0 : Nat) (a0 : S_cursor_Reader) (ao1 : Option Addr) (cap1 : Nat) (f1 : RSl (rInt .u8) 5 w M ao1 cap1 a0.rest.left) (hBgp0 : Box w gp0 (cS_cursor_Reader a0 ao1 cap1)) (hg_gp0 : gp0 ∈ M) (a1 : Int) (k : Nat) (r : Int × S_cursor_Reader) (H : cursor_Reader_Num.f k a0 a1 = some r) :
    To Try.prog 33 [.pointer (some ⟨gp0, 0, none⟩), .int .i64 a1] w fun v w' => ∃ (ao29 : Option Addr) (cap29 : Nat), v = .int .i64 r.1 ∧ (RSl (rInt .u8) 5 w' (M) ao29 cap29 r.2.rest.left) ∧ (Box w' gp0 (cS_cursor_Reader r.2 ao29 cap29)) ∧ Chg [gp0] w w' ∧ MS (M) w' := by
 unfold cursor_Reader_Num.f at H
 refine ent Try.func33 rfl [(0, .pointer (some ⟨gp0, 0, none⟩)), (1, .int .i64 a1)] rfl (by rfl) fun a ha => ?_
 have hC : Chg [gp0] w w := Chg.refl _ _
 refine wp_seq_k fun K2 hK2 => ?_
 refine wp_region_lit ?_
 refine seg ha 1 [(0, .pointer (some ⟨gp0, 0, none⟩)), (1, .int .i64 a1)] (by kernel_rfl) fun a ha => ?_
 refine hK2 _ _ ?_; try clear hK2 K2
 refine wp_seq_k fun K3 hK3 => ?_
 obtain ⟨s4, H4, H⟩ := bind_some H
 have J4 : ∀ (a : Act) (w4 : World), Has a Try.f33.ntmps [(0, .pointer (some ⟨gp0, 0, none⟩)), (1, .int .i64 s4)] → (RSl (rInt .u8) 5 w4 (M) ao1 cap1 a0.rest.left) → (Box w4 gp0 (cS_cursor_Reader a0 ao1 cap1)) → (Chg [gp0] w w4) → (MS (M) w4) → K3 a w4 := by
  intro a w4 ha f1 hBgp0 hC hM
  refine hK3 _ _ ?_; try clear hK3 K3
  refine wp_seq_k fun K5 hK5 => ?_
  refine wp_region_lit ?_
  refine seg ha 1 [(0, .pointer (some ⟨gp0, 0, none⟩)), (1, .int .i64 s4), (5, .int .i64 (0 : Int))] (by kernel_rfl) fun a ha => ?_
  refine hK5 _ _ ?_; try clear hK5 K5
  refine wp_seq_k fun K6 hK6 => ?_
  refine wp_seq_k fun K7 hK7 => ?_
  refine wp_region_lit ?_
  refine seg ha 4 [(5, .int .i64 (0 : Int)), (16, .pointer (some ⟨gp0, 0, none⟩)), (17, .int .i64 s4)] (by kernel_rfl) fun a ha => ?_
  obtain ⟨t8, H8, H⟩ := bind_some H
  refine cl ha (by rfl) (by kernel_rfl) (by rfl) (by rfl) (by rfl) (cursor_rest_next.walk w4 _ hM gp0 a0.rest ao1 cap1 f1 hBgp0 (hg_gp0) s4 _ H8) ?_
  rintro _ w8 ⟨ao9, cap9, ao10, cap10, rfl, f9, f10, qhBgp0, hc8, hMn⟩ a ha
  have o1 : Ok [gp0] (M) w4.heap.size := Ok.one (.inl (hg_gp0))
  have o2 : Ok (M) (M) w4.heap.size := (Ok.refl _ _)
  have f1 := f1.chg hc8 o1 o2
  have hM : MS (M) w8 := (hM.chg hc8)
  have hC := hC.trans hc8 (Ok.one (.inl (by simp)))
  have hBgp0 := qhBgp0
  refine seg ha 2 [(5, .int .i64 (0 : Int)), (18, .slice ao9 t8.1.length cap9), (19, .int .i64 (t8.1.length : Int)), (20, .int .i64 (0 : Int))] (by kernel_rfl) fun a ha => ?_
  refine hK7 _ _ ?_; try clear hK7 K7
  refine wp_block ?_
  obtain ⟨s11, H11, H⟩ := bind_some H
  have J11 : ∀ (a : Act) (wx11 : World), Has a Try.f33.ntmps [(5, .int .i64 s11)] → (RSl (rInt .u8) 5 wx11 (M) ao10 cap10 t8.2.left) → (Box wx11 gp0 (cS_cursor_Reader (⟨t8.2⟩ : S_cursor_Reader) ao10 cap10)) → (Chg [gp0] w wx11) → (MS (M) wx11) → K6 a wx11 := by
   intro a wx11 ha f10 hBgp0 hC hM
   refine hK6 _ _ ?_; try clear hK6 K6
   refine wp_seq_k fun K14 hK14 => ?_
   refine wp_region_lit ?_
   refine seg ha 2 [(4, .int .i64 s11)] (by kernel_rfl) fun a ha => ?_
   refine hK14 _ _ ?_; try clear hK14 K14
   refine wp_ret ?_
   try simp only [Exit.then, Exit.inBlock]
   obtain rfl := Option.some.inj H
   refine rt1 ha rfl rfl ?_
   exact ⟨ao10, cap10, rfl, f10, hBgp0, hC, hM⟩
  have Hc11 := H
  have H := H11
  refine wp_loop_ghost (fun kk a w11 => ∃ (x12 : Int) (x13 : Int), cursor_Reader_Num.l0 t8 kk x12 x13 = some s11 ∧ Has a Try.f33.ntmps [(5, .int .i64 x12), (18, .slice ao9 t8.1.length cap9), (19, .int .i64 (t8.1.length : Int)), (20, .int .i64 x13)] ∧ (RSl (rInt .u8) 5 w11 (M) ao9 cap9 t8.1) ∧ (RSl (rInt .u8) 5 w11 (M) ao10 cap10 t8.2.left) ∧ (Box w11 gp0 (cS_cursor_Reader (⟨t8.2⟩ : S_cursor_Reader) ao10 cap10)) ∧ (Chg [gp0] w w11) ∧ (MS (M) w11)) k ?_ ?_
  ·skip
   exact ⟨(0 : Int), (0 : Int), H, (ha.sel (by kernel_rfl)), f9, f10, hBgp0, hC, hM⟩
  ·rintro kk a w11 ⟨x12, x13, H, ha, f9, f10, hBgp0, hC, hM⟩
   obtain _ | kk := kk
   ·exact nomatch (show none = some _ from H)
   rw [cursor_Reader_Num.l0] at H
   refine wp_seq_k fun K15 hK15 => ?_
   refine wp_region_lit ?_
   refine seg ha 1 [(5, .int .i64 x12), (18, .slice ao9 t8.1.length cap9), (19, .int .i64 (t8.1.length : Int)), (20, .int .i64 x13), (21, .bool (decide (x13 < (t8.1.length : Int))))] (by kernel_rfl) fun a ha => ?_
   refine hK15 _ _ ?_; try clear hK15 K15
   refine wp_seq_k fun K16 hK16 => ?_
   refine cnd ha rfl (fun hc17 => ?_) (fun hc17 => ?_)
   ·have H := ite_t hc17 H
    refine wp_skip ?_
    refine hK16 _ _ ?_; try clear hK16 K16
    refine wp_seq_k fun K18 hK18 => ?_
    refine wp_block ?_
    refine wp_seq_k fun K19 hK19 => ?_
    refine wp_region_lit ?_
    obtain ⟨⟨hx20, hx20'⟩, H⟩ := ite_some H
    refine ix (r := (rInt .u8)) ha (by kernel_rfl) (by kernel_rfl) rfl rfl rfl rfl rfl f9 hx20 hx20' fun a ge21 oe22 cs23 hn26 hR24 hE25 ha => ?_
    rw [rd_get] at hR24
    obtain rfl := hR24
    have hE25 : ∀ j v, ([.int .u8 (rd t8.1 x13)] : List Value)[j]? = some v → w11.cell? ⟨ge21, oe22 + j, none⟩ = some v := hE25
    refine ld ha rfl (by kernel_rfl) rfl rfl rfl (hE25 0 (.int .u8 (rd t8.1 x13)) (by kernel_rfl)) fun a ha => ?_
    refine seg ha 1 [(5, .int .i64 x12), (7, .int .u8 (rd t8.1 x13)), (18, .slice ao9 t8.1.length cap9), (19, .int .i64 (t8.1.length : Int)), (20, .int .i64 x13)] (by kernel_rfl) fun a ha => ?_
    refine hK19 _ _ ?_; try clear hK19 K19
    refine wp_region_lit ?_
    refine seg ha 6 [(5, .int .i64 (IntKind.i64.wrap (BitVec.ofInt IntKind.i64.bits (IntKind.i64.wrap (x12 * 2 ^ (min (8 : Int).toNat IntKind.i64.bits))) ||| BitVec.ofInt IntKind.i64.bits (IntKind.i64.wrap (rd t8.1 x13))).toNat)), (18, .slice ao9 t8.1.length cap9), (19, .int .i64 (t8.1.length : Int)), (20, .int .i64 x13)] (by kernel_rfl) fun a ha => ?_
    refine hK18 _ _ ?_; try clear hK18 K18
    refine wp_region_lit ?_
    refine seg ha 2 [(5, .int .i64 (IntKind.i64.wrap (BitVec.ofInt IntKind.i64.bits (IntKind.i64.wrap (x12 * 2 ^ (min (8 : Int).toNat IntKind.i64.bits))) ||| BitVec.ofInt IntKind.i64.bits (IntKind.i64.wrap (rd t8.1 x13))).toNat)), (18, .slice ao9 t8.1.length cap9), (19, .int .i64 (t8.1.length : Int)), (20, .int .i64 (IntKind.i64.wrap (x13 + (1 : Int))))] (by kernel_rfl) fun a ha => ?_
    exact ⟨kk, Nat.lt_succ_self _, ⟨IntKind.i64.wrap (BitVec.ofInt IntKind.i64.bits (IntKind.i64.wrap (x12 * 2 ^ (min (8 : Int).toNat IntKind.i64.bits))) ||| BitVec.ofInt IntKind.i64.bits (IntKind.i64.wrap (rd t8.1 x13))).toNat, IntKind.i64.wrap (x13 + (1 : Int)), H, (ha.sel (by kernel_rfl)), f9, f10, hBgp0, hC, hM⟩⟩
   ·have H := ite_f hc17 H
    refine wp_exit ?_
    simp only [Exit.then, Exit.inBlock, ↓reduceIte, Nat.reduceEqDiff]
    obtain rfl := Option.some.inj H
    exact J11 _ _ (ha.sel (by kernel_rfl)) f10 hBgp0 hC hM
 have H := H4
 refine wp_seq_k fun K27 hK27 => ?_
 refine wp_region_lit ?_
 refine seg ha 6 [(0, .pointer (some ⟨gp0, 0, none⟩)), (1, .int .i64 a1), (13, .bool (if (decide (a1 < (1 : Int))) = true then true else (decide (a1 > (4 : Int)))))] (by kernel_rfl) fun a ha => ?_
 refine hK27 _ _ ?_; try clear hK27 K27
 refine cnd ha rfl (fun hc28 => ?_) (fun hc28 => ?_)
 ·have H := ite_t hc28 H
  refine wp_region_lit ?_
  refine seg ha 1 [(0, .pointer (some ⟨gp0, 0, none⟩)), (1, .int .i64 (-1 : Int))] (by kernel_rfl) fun a ha => ?_
  obtain rfl := Option.some.inj H
  exact J4 _ _ (ha.sel (by kernel_rfl)) f1 hBgp0 hC hM
 ·have H := ite_f hc28 H
  refine wp_skip ?_
  obtain rfl := Option.some.inj H
  exact J4 _ _ (ha.sel (by kernel_rfl)) f1 hBgp0 hC hM
def label_Read.f (k : Nat) (a0 : List Int) : Option (Int × Bool × Int) := (cursor_Open.f a0).bind fun t4 => (cursor_Reader_Num.f k t4 (3 : Int)).bind fun t8 => (if (if ((a0.length : Int) != (3 : Int)) = true then true else (decide ((IntKind.i64.wrap (BitVec.ofInt IntKind.i64.bits t8.1 &&& BitVec.ofInt IntKind.i64.bits (15 : Int)).toNat) > (1 : Int)))) = true then some (((0 : Int) : Int), (false : Bool), ((4 : Int) : Int)) else some ((Int.fdiv t8.1 (2 ^ (min (4 : Int).toNat IntKind.i64.bits)) : Int), ((IntKind.i64.wrap (BitVec.ofInt IntKind.i64.bits t8.1 &&& BitVec.ofInt IntKind.i64.bits (1 : Int)).toNat) == (1 : Int) : Bool), ((0 : Int) : Int)))
set_option maxRecDepth 100000 in
theorem label_Read.walk (w : World) (M : List Nat) (hM : MS M w) (a0 : List Int) (ao1 : Option Addr) (cap1 : Nat) (f1 : RSl (rInt .u8) 5 w M ao1 cap1 a0) (k : Nat) (r : Int × Bool × Int) (H : label_Read.f k a0 = some r) :
    To Try.prog 25 [.slice ao1 a0.length cap1] w fun v w' => v = .tuple #[.int .i64 r.1, .bool r.2.1, .int .i64 r.2.2] ∧ Chg [] w w' ∧ MS (M) w' := by
 unfold label_Read.f at H
 refine ent Try.func25 rfl [(0, .slice ao1 a0.length cap1)] rfl (by rfl) fun a ha => ?_
 have hC : Chg [] w w := Chg.refl _ _
 refine wp_seq_k fun K2 hK2 => ?_
 refine wp_region_lit ?_
 refine seg ha 3 [(0, .slice ao1 a0.length cap1)] (by kernel_rfl) fun a ha => ?_
 refine hK2 _ _ ?_; try clear hK2 K2
 refine wp_seq_k fun K3 hK3 => ?_
 refine wp_region_lit ?_
 refine seg ha 1 [(0, .slice ao1 a0.length cap1), (6, .slice ao1 a0.length cap1)] (by kernel_rfl) fun a ha => ?_
 obtain ⟨t4, H4, H⟩ := bind_some H
 refine cl ha (by rfl) (by kernel_rfl) (by rfl) (by rfl) (by rfl) (cursor_Open.walk w _ hM a0 ao1 cap1 f1 _ H4) ?_
 rintro _ w4 ⟨g5, ao7, cap7, rfl, f7, hBg5, ne_i6, hc4, hMn⟩ a ha
 have o1 : Ok [] (M) w.heap.size := Ok.nil _ _
 have o2 : Ok ([g5] ++ (M)) (M) w.heap.size := (Ok.app (fun x h => .inr (ne_i6 x h)) (Ok.refl _ _))
 have f1 := f1.chg hc4 o1 o2
 have p_i6_M : ∀ x ∈ [g5], x ∉ M := fun x hx hy => absurd (hM x (hy)) (Nat.not_lt.2 (ne_i6 x hx))
 have e_i6 : ∀ x ∈ [g5], w.heap.size ≤ x := fun x hx => Nat.le_trans hC.size (ne_i6 x hx)
 have hM : MS ([g5] ++ (M)) w4 := (MS.app (fun x h => hMn x (ml h)) (hM.chg hc4))
 have hC := hC.trans hc4 (Ok.nil _ _)
 obtain ⟨t8, H8, H⟩ := bind_some H
 refine cl ha (by rfl) (by kernel_rfl) (by rfl) (by rfl) (by rfl) (cursor_Reader_Num.walk w4 _ hM g5 t4 ao7 cap7 f7 hBg5 (ml (List.mem_singleton.2 rfl)) (3 : Int) k _ H8) ?_
 rintro _ w8 ⟨ao9, cap9, rfl, f9, qhBg5, hc8, hMn⟩ a ha
 have o1 : Ok [g5] ([g5] ++ (M)) w4.heap.size := (fun _ h => .inl (ml h))
 have o2 : Ok ([g5] ++ (M)) ([g5] ++ (M)) w4.heap.size := (Ok.refl _ _)
 have f1 := f1.chg hc8 o1 o2
 have f7 := f7.chg hc8 o1 o2
 have hM : MS ([g5] ++ (M)) w8 := (hM.chg hc8)
 have hC := hC.trans hc8 (fun x h => .inr (e_i6 x h))
 have hBg5 := qhBg5
 refine seg ha 1 [(0, .slice ao1 a0.length cap1), (5, .int .i64 t8.1)] (by kernel_rfl) fun a ha => ?_
 refine hK3 _ _ ?_; try clear hK3 K3
 refine wp_seq_k fun K10 hK10 => ?_
 refine wp_seq_k fun K11 hK11 => ?_
 refine wp_region_lit ?_
 refine seg ha 8 [(5, .int .i64 t8.1), (16, .bool (if ((a0.length : Int) != (3 : Int)) = true then true else (decide ((IntKind.i64.wrap (BitVec.ofInt IntKind.i64.bits t8.1 &&& BitVec.ofInt IntKind.i64.bits (15 : Int)).toNat) > (1 : Int)))))] (by kernel_rfl) fun a ha => ?_
 refine hK11 _ _ ?_; try clear hK11 K11
 refine cnd ha rfl (fun hc12 => ?_) (fun hc12 => ?_)
 ·have H := ite_t hc12 H
  refine wp_seq_k fun K13 hK13 => ?_
  refine wp_region_lit ?_
  refine seg ha 3 [(2, .int .i64 (0 : Int)), (3, .bool false), (4, .int .i64 (4 : Int))] (by kernel_rfl) fun a ha => ?_
  refine hK13 _ _ ?_; try clear hK13 K13
  refine wp_ret ?_
  try simp only [Exit.then, Exit.inBlock]
  have o1 : Ok [] ([g5] ++ (M)) w8.heap.size := Ok.nil _ _
  have o2 : Ok (M) ([g5] ++ (M)) w8.heap.size := (fun _ h => .inl (mr (h)))
  have f9 := f9.chg (Chg.refl [] _) o1 o2
  have hBg5 := hBg5.chg (Chg.refl [] _) (fun h => nomatch h)
  have hM : MS (M) w8 := (fun x h => hM.chg (Chg.refl [] _) x (mr (h)))
  have hC := hC.trans (Chg.refl [] _) (Ok.nil _ _)
  obtain rfl := Option.some.inj H
  refine rt3 ha rfl rfl rfl rfl ?_
  exact ⟨rfl, hC, hM⟩
 ·have H := ite_f hc12 H
  refine wp_skip ?_
  refine hK10 _ _ ?_; try clear hK10 K10
  refine wp_seq_k fun K14 hK14 => ?_
  refine wp_region_lit ?_
  refine seg ha 8 [(2, .int .i64 (Int.fdiv t8.1 (2 ^ (min (4 : Int).toNat IntKind.i64.bits)))), (3, .bool ((IntKind.i64.wrap (BitVec.ofInt IntKind.i64.bits t8.1 &&& BitVec.ofInt IntKind.i64.bits (1 : Int)).toNat) == (1 : Int))), (4, .int .i64 (0 : Int))] (by kernel_rfl) fun a ha => ?_
  refine hK14 _ _ ?_; try clear hK14 K14
  refine wp_ret ?_
  try simp only [Exit.then, Exit.inBlock]
  have o1 : Ok [] ([g5] ++ (M)) w8.heap.size := Ok.nil _ _
  have o2 : Ok (M) ([g5] ++ (M)) w8.heap.size := (fun _ h => .inl (mr (h)))
  have f9 := f9.chg (Chg.refl [] _) o1 o2
  have hBg5 := hBg5.chg (Chg.refl [] _) (fun h => nomatch h)
  have hM : MS (M) w8 := (fun x h => hM.chg (Chg.refl [] _) x (mr (h)))
  have hC := hC.trans (Chg.refl [] _) (Ok.nil _ _)
  obtain rfl := Option.some.inj H
  refine rt3 ha rfl rfl rfl rfl ?_
  exact ⟨rfl, hC, hM⟩
def vineryref01_Bytes.l0 (a0 : Int) : Nat → (List Int) → Int → Option (List Int)
  | 0, _, _ => none
  | kk + 1, x7, x8 => (if (decide (x8 ≥ (0 : Int))) = true then (if 0 ≤ (IntKind.i64.wrap ((8 : Int) * x8)) then (if (x7.length + ([IntKind.u8.wrap (Int.fdiv a0 (2 ^ (min (Int.toNat (IntKind.i64.wrap ((8 : Int) * x8))) IntKind.i64.bits)))] : List Int).length) * 1 ≤ 140737488355328 then vineryref01_Bytes.l0 a0 kk (x7 ++ ([IntKind.u8.wrap (Int.fdiv a0 (2 ^ (min (Int.toNat (IntKind.i64.wrap ((8 : Int) * x8))) IntKind.i64.bits)))] : List Int)) (IntKind.i64.wrap (x8 - (1 : Int))) else none) else none) else some (x7 : List Int))
def vineryref01_Bytes.f (k : Nat) (a0 : Int) (a1 : Int) : Option (List Int) := (vineryref01_Bytes.l0 a0 k ([] : List Int) (IntKind.i64.wrap (a1 - (1 : Int)))).bind fun s5 => some ((s5 : List Int))
set_option maxRecDepth 100000 in
theorem vineryref01_Bytes.walk (w : World) (M : List Nat) (hM : MS M w) (a0 : Int) (a1 : Int) (k : Nat) (r : List Int) (H : vineryref01_Bytes.f k a0 a1 = some r) :
    To Try.prog 34 [.int .i64 a0, .int .i64 a1] w fun v w' => ∃ (ao25 : Option Addr) (cap25 : Nat), v = .slice ao25 r.length cap25 ∧ (Own (rInt .u8) 5 w' (blkL ao25 ++ (M)) ao25 cap25 r) ∧ (∀ x ∈ blkL ao25, w.heap.size ≤ x) ∧ Chg [] w w' ∧ MS (blkL ao25 ++ (M)) w' := by
 unfold vineryref01_Bytes.f at H
 refine ent Try.func34 rfl [(0, .int .i64 a0), (1, .int .i64 a1)] rfl (by rfl) fun a ha => ?_
 have hC : Chg [] w w := Chg.refl _ _
 refine wp_seq_k fun K1 hK1 => ?_
 refine wp_region_lit ?_
 refine seg ha 1 [(0, .int .i64 a0), (1, .int .i64 a1)] (by kernel_rfl) fun a ha => ?_
 refine hK1 _ _ ?_; try clear hK1 K1
 refine wp_seq_k fun K2 hK2 => ?_
 refine wp_region_lit ?_
 refine seg ha 1 [(0, .int .i64 a0), (1, .int .i64 a1), (5, .slice none 0 0)] (by kernel_rfl) fun a ha => ?_
 refine hK2 _ _ ?_; try clear hK2 K2
 refine wp_seq_k fun K3 hK3 => ?_
 refine wp_seq_k fun K4 hK4 => ?_
 refine wp_region_lit ?_
 refine seg ha 3 [(0, .int .i64 a0), (5, .slice none 0 0), (6, .int .i64 (IntKind.i64.wrap (a1 - (1 : Int))))] (by kernel_rfl) fun a ha => ?_
 refine hK4 _ _ ?_; try clear hK4 K4
 refine wp_block ?_
 obtain ⟨s5, H5, H⟩ := bind_some H
 have J5 : ∀ (a : Act) (wx5 : World) (ao9 : Option Addr) (cap9 : Nat), Has a Try.f34.ntmps [(5, .slice ao9 s5.length cap9)] → (Own (rInt .u8) 5 wx5 (blkL ao9 ++ (M)) ao9 cap9 s5) → (∀ x ∈ blkL ao9, w.heap.size ≤ x) → (∀ x ∈ blkL ao9, x ∉ M) → (Chg [] w wx5) → (MS (blkL ao9 ++ (M)) wx5) → K3 a wx5 := by
  intro a wx5 ao9 cap9 ha f9 e_i9 p_i9_M hC hM
  refine hK3 _ _ ?_; try clear hK3 K3
  refine wp_seq_k fun K10 hK10 => ?_
  refine wp_region_lit ?_
  refine seg ha 2 [(4, .slice ao9 s5.length cap9)] (by kernel_rfl) fun a ha => ?_
  refine hK10 _ _ ?_; try clear hK10 K10
  refine wp_ret ?_
  try simp only [Exit.then, Exit.inBlock]
  obtain rfl := Option.some.inj H
  refine rt1 ha rfl rfl ?_
  exact ⟨ao9, cap9, rfl, f9, e_i9, hC, hM⟩
 have Hc5 := H
 have H := H5
 refine wp_loop_ghost (fun kk a w5 => ∃ (x7 : List Int) (x8 : Int) (ao6 : Option Addr) (cap6 : Nat), vineryref01_Bytes.l0 a0 kk x7 x8 = some s5 ∧ Has a Try.f34.ntmps [(0, .int .i64 a0), (5, .slice ao6 x7.length cap6), (6, .int .i64 x8)] ∧ (Own (rInt .u8) 5 w5 (blkL ao6 ++ (M)) ao6 cap6 x7) ∧ (∀ x ∈ blkL ao6, w.heap.size ≤ x) ∧ (∀ x ∈ blkL ao6, x ∉ M) ∧ (Chg [] w w5) ∧ (MS (blkL ao6 ++ (M)) w5)) k ?_ ?_
 ·skip
  have p_z11_M : ∀ x ∈ blkL none, x ∉ M := fun x hx hy => absurd (hM x (hy)) (Nat.not_lt.2 ((fun _ h => nomatch h) x hx))
  have e_z11 : ∀ x ∈ blkL none, w.heap.size ≤ x := fun x hx => Nat.le_trans hC.size ((fun _ h => nomatch h) x hx)
  have hM : MS (blkL none ++ (M)) w := (MS.app (fun _ h => nomatch h) (hM.chg (Chg.refl [] _)))
  have hC := hC.trans (Chg.refl [] _) (Ok.nil _ _)
  exact ⟨([] : List Int), IntKind.i64.wrap (a1 - (1 : Int)), none, 0, H, (ha.sel (by kernel_rfl)), Own.nil, e_z11, p_z11_M, hC, hM⟩
 ·rintro kk a w5 ⟨x7, x8, ao6, cap6, H, ha, f6, e_i6, p_i6_M, hC, hM⟩
  obtain _ | kk := kk
  ·exact nomatch (show none = some _ from H)
  rw [vineryref01_Bytes.l0] at H
  refine wp_seq_k fun K12 hK12 => ?_
  refine wp_seq_k fun K13 hK13 => ?_
  refine wp_region_lit ?_
  refine seg ha 2 [(0, .int .i64 a0), (5, .slice ao6 x7.length cap6), (6, .int .i64 x8), (10, .bool (decide (x8 ≥ (0 : Int))))] (by kernel_rfl) fun a ha => ?_
  refine hK13 _ _ ?_; try clear hK13 K13
  refine cnd ha rfl (fun hc14 => ?_) (fun hc14 => ?_)
  ·have H := ite_t hc14 H
   refine wp_skip ?_
   refine hK12 _ _ ?_; try clear hK12 K12
   refine wp_seq_k fun K15 hK15 => ?_
   refine wp_block ?_
   refine wp_region_lit ?_
   refine seg ha 4 [(0, .int .i64 a0), (6, .int .i64 x8), (13, .slice ao6 x7.length cap6), (14, .int .i64 a0), (16, .int .i64 (IntKind.i64.wrap ((8 : Int) * x8)))] (by kernel_rfl) fun a ha => ?_
   obtain ⟨hx16, H⟩ := ite_some H
   refine hop (v := .int .i64 (Int.fdiv a0 (2 ^ (min (Int.toNat (IntKind.i64.wrap ((8 : Int) * x8))) IntKind.i64.bits)))) (w' := w5) ha rfl rfl rfl (shr_run ha (by rfl) (by rfl) hx16 _) fun a ha => ?_
   refine seg ha 1 [(0, .int .i64 a0), (6, .int .i64 x8), (13, .slice ao6 x7.length cap6), (18, .int .u8 (IntKind.u8.wrap (Int.fdiv a0 (2 ^ (min (Int.toNat (IntKind.i64.wrap ((8 : Int) * x8))) IntKind.i64.bits)))))] (by kernel_rfl) fun a ha => ?_
   refine bsl (vals := ([.int .u8 (IntKind.u8.wrap (Int.fdiv a0 (2 ^ (min (Int.toNat (IntKind.i64.wrap ((8 : Int) * x8))) IntKind.i64.bits))))] : List Value)) (T := 5) ha rfl (([.int .u8 (IntKind.u8.wrap (Int.fdiv a0 (2 ^ (min (Int.toNat (IntKind.i64.wrap ((8 : Int) * x8))) IntKind.i64.bits))))] : List Value) ++ ([] : List Value)) (fun w => by kernel_rfl) rfl rfl rfl fun a w17 g18 hN19 ha => ?_
   have o1 : Ok [] (blkL ao6 ++ (M)) w5.heap.size := Ok.nil _ _
   have o2 : Ok ([g18] ++ (blkL ao6 ++ (M))) (blkL ao6 ++ (M)) w5.heap.size := (Ok.app (hN19.ok _) (Ok.refl _ _))
   have f6 := f6.chg hN19.chg o1 o2 (fun _ _ h => nomatch h) (fun _ h => mr (ml h))
   have p_i20_i6 : ∀ x ∈ [g18], x ∉ (blkL ao6) := fun x hx hy => absurd (hM x (ml hy)) (Nat.not_lt.2 ((hN19.ge1) x hx))
   have p_i20_M : ∀ x ∈ [g18], x ∉ M := fun x hx hy => absurd (hM x (mr (hy))) (Nat.not_lt.2 ((hN19.ge1) x hx))
   have e_i20 : ∀ x ∈ [g18], w.heap.size ≤ x := fun x hx => Nat.le_trans hC.size ((hN19.ge1) x hx)
   have hM : MS ([g18] ++ (blkL ao6 ++ (M))) w17 := (MS.app hN19.ms (hM.chg hN19.chg))
   have hC := hC.trans hN19.chg (Ok.nil _ _)
   have f21 : Own (rInt .u8) 5 w17 ([g18] ++ (blkL ao6 ++ (M))) (some ⟨g18, 0, none⟩) 1 ([IntKind.u8.wrap (Int.fdiv a0 (2 ^ (min (Int.toNat (IntKind.i64.wrap ((8 : Int) * x8))) IntKind.i64.bits)))] : List Int) := hN19.own ⟨([.int .u8 (IntKind.u8.wrap (Int.fdiv a0 (2 ^ (min (Int.toNat (IntKind.i64.wrap ((8 : Int) * x8))) IntKind.i64.bits))))] : List Value), _, rfl, rfl, rfl⟩ (Nat.le_of_ble_eq_true rfl)
   obtain ⟨hx22, H⟩ := ite_some H
   refine app (r := (rInt .u8)) (xs := x7) (ys := ([IntKind.u8.wrap (Int.fdiv a0 (2 ^ (min (Int.toNat (IntKind.i64.wrap ((8 : Int) * x8))) IntKind.i64.bits)))] : List Int)) ha (ElemT.mk' (bytes := 1) (by kernel_rfl)) rfl rfl rfl rfl rfl f6 f21.src hx22 (by decide) fun a w23 ao24 cap24 hO24 hc24 hk24 hl24 ha => ?_
   have o1 : Ok (blkL ao6) ([g18] ++ (blkL ao6 ++ (M))) w17.heap.size := (fun _ h => .inl (mr (ml h)))
   have o2 : Ok (blkL ao24 ++ ([g18] ++ (M))) ([g18] ++ (blkL ao6 ++ (M))) w17.heap.size := (Ok.app (Ok.to hk24 (fun _ h => mr (ml h))) (Ok.app (fun _ h => .inl (ml h)) (fun _ h => .inl (mr (mr (h))))))
   have f21 := f21.chg hc24 o1 o2 p_i20_i6 (fun _ h => mr (ml h))
   have p_i24_i20 : ∀ x ∈ blkL ao24, x ∉ ([g18]) := fun x hx hy => (hk24 x hx).elim (fun h => (fun x hx hy => p_i20_i6 x hy hx) x h hy) (fun h => absurd (hM x (ml hy)) (Nat.not_lt.2 h))
   have p_i24_M : ∀ x ∈ blkL ao24, x ∉ M := fun x hx hy => (hk24 x hx).elim (fun h => p_i6_M x h hy) (fun h => absurd (hM x (mr (mr (hy)))) (Nat.not_lt.2 h))
   have e_i24 : ∀ x ∈ blkL ao24, w.heap.size ≤ x := fun x hx => (hk24 x hx).elim (e_i6 x) (Nat.le_trans hC.size)
   have hM : MS (blkL ao24 ++ ([g18] ++ (M))) w23 := (MS.app hl24 (MS.app (fun x h => hM.chg hc24 x (ml h)) (fun x h => hM.chg hc24 x (mr (mr (h))))))
   have hC := hC.trans hc24 (fun x h => .inr (e_i6 x h))
   have f24 := hO24.chg (M' := blkL ao24 ++ ([g18] ++ (M))) (Chg.refl [] _) (Ok.nil _ _) (Ok.app (fun _ h => .inl (ml h)) (Ok.to (Ok.app (fun _ h => .inl (ml h)) (fun _ h => .inl (mr (mr (h))))) (fun _ h => mr h))) (fun _ _ h => nomatch h) (fun _ h => ml h)
   refine seg ha 1 [(0, .int .i64 a0), (5, .slice ao24 (x7 ++ ([IntKind.u8.wrap (Int.fdiv a0 (2 ^ (min (Int.toNat (IntKind.i64.wrap ((8 : Int) * x8))) IntKind.i64.bits)))] : List Int)).length cap24), (6, .int .i64 x8)] (by kernel_rfl) fun a ha => ?_
   refine hK15 _ _ ?_; try clear hK15 K15
   refine wp_region_lit ?_
   refine seg ha 3 [(0, .int .i64 a0), (5, .slice ao24 (x7 ++ ([IntKind.u8.wrap (Int.fdiv a0 (2 ^ (min (Int.toNat (IntKind.i64.wrap ((8 : Int) * x8))) IntKind.i64.bits)))] : List Int)).length cap24), (6, .int .i64 (IntKind.i64.wrap (x8 - (1 : Int))))] (by kernel_rfl) fun a ha => ?_
   have o1 : Ok [] (blkL ao24 ++ ([g18] ++ (M))) w23.heap.size := Ok.nil _ _
   have o2 : Ok (blkL ao24 ++ (M)) (blkL ao24 ++ ([g18] ++ (M))) w23.heap.size := (Ok.app (fun _ h => .inl (ml h)) (fun _ h => .inl (mr (mr (h)))))
   have f24 := f24.chg (Chg.refl [] _) o1 o2 (fun _ _ h => nomatch h) (fun _ h => ml h)
   have hM : MS (blkL ao24 ++ (M)) w23 := (MS.app (fun x h => hM.chg (Chg.refl [] _) x (ml h)) (fun x h => hM.chg (Chg.refl [] _) x (mr (mr (h)))))
   have hC := hC.trans (Chg.refl [] _) (Ok.nil _ _)
   exact ⟨kk, Nat.lt_succ_self _, ⟨(x7 ++ ([IntKind.u8.wrap (Int.fdiv a0 (2 ^ (min (Int.toNat (IntKind.i64.wrap ((8 : Int) * x8))) IntKind.i64.bits)))] : List Int)), IntKind.i64.wrap (x8 - (1 : Int)), ao24, cap24, H, (ha.sel (by kernel_rfl)), f24, e_i24, p_i24_M, hC, hM⟩⟩
  ·have H := ite_f hc14 H
   refine wp_exit ?_
   simp only [Exit.then, Exit.inBlock, ↓reduceIte, Nat.reduceEqDiff]
   obtain rfl := Option.some.inj H
   exact J5 _ _ ao6 cap6 (ha.sel (by kernel_rfl)) f6 e_i6 p_i6_M hC hM
def vineryref05_Bytes.f (k : Nat) (a0 : Int) (a1 : Bool) : Option (List Int × Int) := (if (if (decide (a0 < (0 : Int))) = true then true else (decide (a0 > (1048575 : Int)))) = true then some ((([] : List Int) : List Int), ((5 : Int) : Int)) else ((if a1 = true then some (IntKind.i64.wrap ((IntKind.i64.wrap ((16 : Int) * a0)) + (1 : Int)) : Int) else some (IntKind.i64.wrap ((16 : Int) * a0) : Int))).bind fun s9 => (vineryref01_Bytes.f k s9 (3 : Int)).bind fun t11 => some ((t11 : List Int), ((0 : Int) : Int)))
set_option maxRecDepth 100000 in
theorem vineryref05_Bytes.walk (w : World) (M : List Nat) (hM : MS M w) (a0 : Int) (a1 : Bool) (k : Nat) (r : List Int × Int) (H : vineryref05_Bytes.f k a0 a1 = some r) :
    To Try.prog 26 [.int .i64 a0, .bool a1] w fun v w' => ∃ (ao15 : Option Addr) (cap15 : Nat), v = .tuple #[.slice ao15 r.1.length cap15, .int .i64 r.2] ∧ (Own (rInt .u8) 5 w' (blkL ao15 ++ (M)) ao15 cap15 r.1) ∧ (∀ x ∈ blkL ao15, w.heap.size ≤ x) ∧ Chg [] w w' ∧ MS (blkL ao15 ++ (M)) w' := by
 unfold vineryref05_Bytes.f at H
 refine ent Try.func26 rfl [(0, .int .i64 a0), (1, .bool a1)] rfl (by rfl) fun a ha => ?_
 have hC : Chg [] w w := Chg.refl _ _
 refine wp_seq_k fun K1 hK1 => ?_
 refine wp_region_lit ?_
 refine seg ha 2 [(0, .int .i64 a0), (1, .bool a1)] (by kernel_rfl) fun a ha => ?_
 refine hK1 _ _ ?_; try clear hK1 K1
 refine wp_seq_k fun K2 hK2 => ?_
 refine wp_seq_k fun K3 hK3 => ?_
 refine wp_region_lit ?_
 refine seg ha 6 [(0, .int .i64 a0), (1, .bool a1), (12, .bool (if (decide (a0 < (0 : Int))) = true then true else (decide (a0 > (1048575 : Int)))))] (by kernel_rfl) fun a ha => ?_
 refine hK3 _ _ ?_; try clear hK3 K3
 refine cnd ha rfl (fun hc4 => ?_) (fun hc4 => ?_)
 ·have H := ite_t hc4 H
  refine wp_seq_k fun K5 hK5 => ?_
  refine wp_region_lit ?_
  refine seg ha 2 [(4, .slice none 0 0), (5, .int .i64 (5 : Int))] (by kernel_rfl) fun a ha => ?_
  refine hK5 _ _ ?_; try clear hK5 K5
  refine wp_ret ?_
  try simp only [Exit.then, Exit.inBlock]
  have p_z6_M : ∀ x ∈ blkL none, x ∉ M := fun x hx hy => absurd (hM x (hy)) (Nat.not_lt.2 ((fun _ h => nomatch h) x hx))
  have e_z6 : ∀ x ∈ blkL none, w.heap.size ≤ x := fun x hx => Nat.le_trans hC.size ((fun _ h => nomatch h) x hx)
  have hM : MS (blkL none ++ (M)) w := (MS.app (fun _ h => nomatch h) (hM.chg (Chg.refl [] _)))
  have hC := hC.trans (Chg.refl [] _) (Ok.nil _ _)
  obtain rfl := Option.some.inj H
  refine rt2 ha rfl rfl rfl ?_
  exact ⟨none, 0, rfl, Own.nil, e_z6, hC, hM⟩
 ·have H := ite_f hc4 H
  refine wp_skip ?_
  refine hK2 _ _ ?_; try clear hK2 K2
  refine wp_seq_k fun K7 hK7 => ?_
  refine wp_region_lit ?_
  refine seg ha 3 [(1, .bool a1), (6, .int .i64 (IntKind.i64.wrap ((16 : Int) * a0)))] (by kernel_rfl) fun a ha => ?_
  refine hK7 _ _ ?_; try clear hK7 K7
  refine wp_seq_k fun K8 hK8 => ?_
  obtain ⟨s9, H9, H⟩ := bind_some H
  have J9 : ∀ (a : Act) (w9 : World), Has a Try.f26.ntmps [(6, .int .i64 s9)] → (Chg [] w w9) → (MS (M) w9) → K8 a w9 := by
   intro a w9 ha hC hM
   refine hK8 _ _ ?_; try clear hK8 K8
   refine wp_seq_k fun K10 hK10 => ?_
   refine wp_region_lit ?_
   refine seg ha 1 [(18, .int .i64 s9)] (by kernel_rfl) fun a ha => ?_
   obtain ⟨t11, H11, H⟩ := bind_some H
   refine cl ha (by rfl) (by kernel_rfl) (by rfl) (by rfl) (by rfl) (vineryref01_Bytes.walk w9 _ hM s9 (3 : Int) k _ H11) ?_
   rintro _ w11 ⟨ao12, cap12, rfl, f12, ne_i12, hc11, hMn⟩ a ha
   have p_i12_M : ∀ x ∈ blkL ao12, x ∉ M := fun x hx hy => absurd (hM x (hy)) (Nat.not_lt.2 (ne_i12 x hx))
   have e_i12 : ∀ x ∈ blkL ao12, w.heap.size ≤ x := fun x hx => Nat.le_trans hC.size (ne_i12 x hx)
   have hM : MS (blkL ao12 ++ (M)) w11 := (MS.app (fun x h => hMn x (ml h)) (hM.chg hc11))
   have hC := hC.trans hc11 (Ok.nil _ _)
   refine seg ha 2 [(4, .slice ao12 t11.length cap12), (5, .int .i64 (0 : Int))] (by kernel_rfl) fun a ha => ?_
   refine hK10 _ _ ?_; try clear hK10 K10
   refine wp_ret ?_
   try simp only [Exit.then, Exit.inBlock]
   obtain rfl := Option.some.inj H
   refine rt2 ha rfl rfl rfl ?_
   exact ⟨ao12, cap12, rfl, f12, e_i12, hC, hM⟩
  have H := H9
  refine wp_seq_k fun K13 hK13 => ?_
  refine wp_region_lit ?_
  refine seg ha 1 [(6, .int .i64 (IntKind.i64.wrap ((16 : Int) * a0))), (15, .bool a1)] (by kernel_rfl) fun a ha => ?_
  refine hK13 _ _ ?_; try clear hK13 K13
  refine cnd ha rfl (fun hc14 => ?_) (fun hc14 => ?_)
  ·have H := ite_t hc14 H
   refine wp_region_lit ?_
   refine seg ha 3 [(6, .int .i64 (IntKind.i64.wrap ((IntKind.i64.wrap ((16 : Int) * a0)) + (1 : Int))))] (by kernel_rfl) fun a ha => ?_
   obtain rfl := Option.some.inj H
   exact J9 _ _ (ha.sel (by kernel_rfl)) hC hM
  ·have H := ite_f hc14 H
   refine wp_skip ?_
   obtain rfl := Option.some.inj H
   exact J9 _ _ (ha.sel (by kernel_rfl)) hC hM
def vineryref01_Big.l0 (a0 : List Int) : Nat → Int → Int → Option (Int)
  | 0, _, _ => none
  | kk + 1, x7, x8 => (if (decide (x8 < (a0.length : Int))) = true then (if 0 ≤ x8 ∧ x8 < (a0.length : Int) then vineryref01_Big.l0 a0 kk (IntKind.i64.wrap ((IntKind.i64.wrap (x7 * (256 : Int))) + (IntKind.i64.wrap (rd a0 x8)))) (IntKind.i64.wrap (x8 + (1 : Int))) else none) else some (x7 : Int))
def vineryref01_Big.f (k : Nat) (a0 : List Int) : Option (Int) := (vineryref01_Big.l0 a0 k (0 : Int) (0 : Int)).bind fun s6 => some ((s6 : Int))
set_option maxRecDepth 100000 in
theorem vineryref01_Big.walk (w : World) (M : List Nat) (hM : MS M w) (a0 : List Int) (ao1 : Option Addr) (cap1 : Nat) (f1 : RSl (rInt .u8) 5 w M ao1 cap1 a0) (k : Nat) (r : Int) (H : vineryref01_Big.f k a0 = some r) :
    To Try.prog 35 [.slice ao1 a0.length cap1] w fun v w' => v = .int .i64 r ∧ Chg [] w w' ∧ MS (M) w' := by
 unfold vineryref01_Big.f at H
 refine ent Try.func35 rfl [(0, .slice ao1 a0.length cap1)] rfl (by rfl) fun a ha => ?_
 have hC : Chg [] w w := Chg.refl _ _
 refine wp_seq_k fun K2 hK2 => ?_
 refine wp_region_lit ?_
 refine seg ha 1 [(0, .slice ao1 a0.length cap1)] (by kernel_rfl) fun a ha => ?_
 refine hK2 _ _ ?_; try clear hK2 K2
 refine wp_seq_k fun K3 hK3 => ?_
 refine wp_region_lit ?_
 refine seg ha 1 [(0, .slice ao1 a0.length cap1), (3, .int .i64 (0 : Int))] (by kernel_rfl) fun a ha => ?_
 refine hK3 _ _ ?_; try clear hK3 K3
 refine wp_seq_k fun K4 hK4 => ?_
 refine wp_seq_k fun K5 hK5 => ?_
 refine wp_region_lit ?_
 refine seg ha 1 [(0, .slice ao1 a0.length cap1), (3, .int .i64 (0 : Int)), (4, .int .i64 (0 : Int))] (by kernel_rfl) fun a ha => ?_
 refine hK5 _ _ ?_; try clear hK5 K5
 refine wp_block ?_
 obtain ⟨s6, H6, H⟩ := bind_some H
 have J6 : ∀ (a : Act) (wx6 : World), Has a Try.f35.ntmps [(3, .int .i64 s6)] → (Chg [] w wx6) → (MS (M) wx6) → K4 a wx6 := by
  intro a wx6 ha hC hM
  refine hK4 _ _ ?_; try clear hK4 K4
  refine wp_seq_k fun K9 hK9 => ?_
  refine wp_region_lit ?_
  refine seg ha 2 [(2, .int .i64 s6)] (by kernel_rfl) fun a ha => ?_
  refine hK9 _ _ ?_; try clear hK9 K9
  refine wp_ret ?_
  try simp only [Exit.then, Exit.inBlock]
  obtain rfl := Option.some.inj H
  refine rt1 ha rfl rfl ?_
  exact ⟨rfl, hC, hM⟩
 have Hc6 := H
 have H := H6
 refine wp_loop_ghost (fun kk a w6 => ∃ (x7 : Int) (x8 : Int), vineryref01_Big.l0 a0 kk x7 x8 = some s6 ∧ Has a Try.f35.ntmps [(0, .slice ao1 a0.length cap1), (3, .int .i64 x7), (4, .int .i64 x8)] ∧ (RSl (rInt .u8) 5 w6 (M) ao1 cap1 a0) ∧ (Chg [] w w6) ∧ (MS (M) w6)) k ?_ ?_
 ·skip
  exact ⟨(0 : Int), (0 : Int), H, (ha.sel (by kernel_rfl)), f1, hC, hM⟩
 ·rintro kk a w6 ⟨x7, x8, H, ha, f1, hC, hM⟩
  obtain _ | kk := kk
  ·exact nomatch (show none = some _ from H)
  rw [vineryref01_Big.l0] at H
  refine wp_seq_k fun K10 hK10 => ?_
  refine wp_seq_k fun K11 hK11 => ?_
  refine wp_region_lit ?_
  refine seg ha 4 [(0, .slice ao1 a0.length cap1), (3, .int .i64 x7), (4, .int .i64 x8), (8, .bool (decide (x8 < (a0.length : Int))))] (by kernel_rfl) fun a ha => ?_
  refine hK11 _ _ ?_; try clear hK11 K11
  refine cnd ha rfl (fun hc12 => ?_) (fun hc12 => ?_)
  ·have H := ite_t hc12 H
   refine wp_skip ?_
   refine hK10 _ _ ?_; try clear hK10 K10
   refine wp_seq_k fun K13 hK13 => ?_
   refine wp_block ?_
   refine wp_region_lit ?_
   refine seg ha 4 [(0, .slice ao1 a0.length cap1), (4, .int .i64 x8), (12, .int .i64 (IntKind.i64.wrap (x7 * (256 : Int)))), (13, .slice ao1 a0.length cap1), (14, .int .i64 x8)] (by kernel_rfl) fun a ha => ?_
   obtain ⟨⟨hx14, hx14'⟩, H⟩ := ite_some H
   refine ix (r := (rInt .u8)) ha (by kernel_rfl) (by kernel_rfl) rfl rfl rfl rfl rfl f1 hx14 hx14' fun a ge15 oe16 cs17 hn20 hR18 hE19 ha => ?_
   rw [rd_get] at hR18
   obtain rfl := hR18
   have hE19 : ∀ j v, ([.int .u8 (rd a0 x8)] : List Value)[j]? = some v → w6.cell? ⟨ge15, oe16 + j, none⟩ = some v := hE19
   refine ld ha rfl (by kernel_rfl) rfl rfl rfl (hE19 0 (.int .u8 (rd a0 x8)) (by kernel_rfl)) fun a ha => ?_
   refine seg ha 3 [(0, .slice ao1 a0.length cap1), (3, .int .i64 (IntKind.i64.wrap ((IntKind.i64.wrap (x7 * (256 : Int))) + (IntKind.i64.wrap (rd a0 x8))))), (4, .int .i64 x8)] (by kernel_rfl) fun a ha => ?_
   refine hK13 _ _ ?_; try clear hK13 K13
   refine wp_region_lit ?_
   refine seg ha 3 [(0, .slice ao1 a0.length cap1), (3, .int .i64 (IntKind.i64.wrap ((IntKind.i64.wrap (x7 * (256 : Int))) + (IntKind.i64.wrap (rd a0 x8))))), (4, .int .i64 (IntKind.i64.wrap (x8 + (1 : Int))))] (by kernel_rfl) fun a ha => ?_
   exact ⟨kk, Nat.lt_succ_self _, ⟨IntKind.i64.wrap ((IntKind.i64.wrap (x7 * (256 : Int))) + (IntKind.i64.wrap (rd a0 x8))), IntKind.i64.wrap (x8 + (1 : Int)), H, (ha.sel (by kernel_rfl)), f1, hC, hM⟩⟩
  ·have H := ite_f hc12 H
   refine wp_exit ?_
   simp only [Exit.then, Exit.inBlock, ↓reduceIte, Nat.reduceEqDiff]
   obtain rfl := Option.some.inj H
   exact J6 _ _ (ha.sel (by kernel_rfl)) hC hM
def vineryref05_Read.f (k : Nat) (a0 : List Int) : Option (Int × Bool × Int) := (vineryref01_Big.f k a0).bind fun t4 => (if (if ((a0.length : Int) != (3 : Int)) = true then true else (decide ((Int.tmod t4 (16 : Int)) > (1 : Int)))) = true then some (((0 : Int) : Int), (false : Bool), ((4 : Int) : Int)) else some ((IntKind.i64.wrap (Int.tdiv t4 (16 : Int)) : Int), ((Int.tmod t4 (16 : Int)) == (1 : Int) : Bool), ((0 : Int) : Int)))
set_option maxRecDepth 100000 in
theorem vineryref05_Read.walk (w : World) (M : List Nat) (hM : MS M w) (a0 : List Int) (ao1 : Option Addr) (cap1 : Nat) (f1 : RSl (rInt .u8) 5 w M ao1 cap1 a0) (k : Nat) (r : Int × Bool × Int) (H : vineryref05_Read.f k a0 = some r) :
    To Try.prog 27 [.slice ao1 a0.length cap1] w fun v w' => v = .tuple #[.int .i64 r.1, .bool r.2.1, .int .i64 r.2.2] ∧ Chg [] w w' ∧ MS (M) w' := by
 unfold vineryref05_Read.f at H
 refine ent Try.func27 rfl [(0, .slice ao1 a0.length cap1)] rfl (by rfl) fun a ha => ?_
 have hC : Chg [] w w := Chg.refl _ _
 refine wp_seq_k fun K2 hK2 => ?_
 refine wp_region_lit ?_
 refine seg ha 3 [(0, .slice ao1 a0.length cap1)] (by kernel_rfl) fun a ha => ?_
 refine hK2 _ _ ?_; try clear hK2 K2
 refine wp_seq_k fun K3 hK3 => ?_
 refine wp_region_lit ?_
 refine seg ha 1 [(0, .slice ao1 a0.length cap1), (6, .slice ao1 a0.length cap1)] (by kernel_rfl) fun a ha => ?_
 obtain ⟨t4, H4, H⟩ := bind_some H
 refine cl ha (by rfl) (by kernel_rfl) (by rfl) (by rfl) (by rfl) (vineryref01_Big.walk w _ hM a0 ao1 cap1 f1 k _ H4) ?_
 rintro _ w4 ⟨rfl, hc4, hMn⟩ a ha
 have o1 : Ok [] (M) w.heap.size := Ok.nil _ _
 have o2 : Ok (M) (M) w.heap.size := (Ok.refl _ _)
 have f1 := f1.chg hc4 o1 o2
 have hM : MS (M) w4 := (hM.chg hc4)
 have hC := hC.trans hc4 (Ok.nil _ _)
 refine seg ha 1 [(0, .slice ao1 a0.length cap1), (5, .int .i64 t4)] (by kernel_rfl) fun a ha => ?_
 refine hK3 _ _ ?_; try clear hK3 K3
 refine wp_seq_k fun K5 hK5 => ?_
 refine wp_seq_k fun K6 hK6 => ?_
 refine wp_region_lit ?_
 refine seg ha 8 [(5, .int .i64 t4), (15, .bool (if ((a0.length : Int) != (3 : Int)) = true then true else (decide ((Int.tmod t4 (16 : Int)) > (1 : Int)))))] (by kernel_rfl) fun a ha => ?_
 refine hK6 _ _ ?_; try clear hK6 K6
 refine cnd ha rfl (fun hc7 => ?_) (fun hc7 => ?_)
 ·have H := ite_t hc7 H
  refine wp_seq_k fun K8 hK8 => ?_
  refine wp_region_lit ?_
  refine seg ha 3 [(2, .int .i64 (0 : Int)), (3, .bool false), (4, .int .i64 (4 : Int))] (by kernel_rfl) fun a ha => ?_
  refine hK8 _ _ ?_; try clear hK8 K8
  refine wp_ret ?_
  try simp only [Exit.then, Exit.inBlock]
  obtain rfl := Option.some.inj H
  refine rt3 ha rfl rfl rfl rfl ?_
  exact ⟨rfl, hC, hM⟩
 ·have H := ite_f hc7 H
  refine wp_skip ?_
  refine hK5 _ _ ?_; try clear hK5 K5
  refine wp_seq_k fun K9 hK9 => ?_
  refine wp_region_lit ?_
  refine seg ha 8 [(2, .int .i64 (IntKind.i64.wrap (Int.tdiv t4 (16 : Int)))), (3, .bool ((Int.tmod t4 (16 : Int)) == (1 : Int))), (4, .int .i64 (0 : Int))] (by kernel_rfl) fun a ha => ?_
  refine hK9 _ _ ?_; try clear hK9 K9
  refine wp_ret ?_
  try simp only [Exit.then, Exit.inBlock]
  obtain rfl := Option.some.inj H
  refine rt3 ha rfl rfl rfl rfl ?_
  exact ⟨rfl, hC, hM⟩

theorem Kept.go (w : World) (M : List Nat) (hM : MS M w) (a0 : List Int) (g : Nat) (hB : Box w g (a0.map (.int .u8) ++ [.int .u8 77])) (hl : a0.length ≤ 281474976710655) (a1 : List Int) (ao1 : Option Addr) (cap1 : Nat) (f1 : RSl (rInt .u8) 5 w M ao1 cap1 a1) :
    To Try.prog 28 [.slice (some ⟨g, 0, none⟩) a0.length (a0.length + 1), .slice ao1 a1.length cap1] w fun v w' => v = .bool ((bstr (b2s a0)).toList == (bstr (b2s a1)).toList) ∧ Chg [] w w' ∧ MS M w' := by
  have hmax : maxLen = 9223372036854775807 := rfl
  have f0 : RSl (rInt .u8) 5 w [] (some ⟨g, 0, none⟩) (a0.length + 1) a0 := Box.bytes hB (by simp) (by omega) (by omega)
  refine ent Try.func28 rfl [(0, .slice (some ⟨g, 0, none⟩) a0.length (a0.length + 1)), (1, .slice ao1 a1.length cap1)] rfl rfl fun a ha => ?_
  refine wp_seq_k fun K hK => ?_
  refine wp_region_lit ?_
  refine seg ha 1 [(0, .slice (some ⟨g, 0, none⟩) a0.length (a0.length + 1)), (1, .slice ao1 a1.length cap1)] (by kernel_rfl) fun a ha => ?_
  refine hK _ _ ?_; clear hK K
  refine wp_seq_k fun K hK => ?_
  refine wp_region_lit ?_
  refine seg ha 1 [(0, .slice (some ⟨g, 0, none⟩) a0.length (a0.length + 1)), (1, .slice ao1 a1.length cap1), (5, .slice (some ⟨g, 0, none⟩) a0.length (a0.length + 1))] (by kernel_rfl) fun a ha => ?_
  refine cvs ha rfl (by kernel_rfl) (by kernel_rfl) (by kernel_rfl) rfl rfl rfl f0 fun a ha => ?_
  refine seg ha 1 [(0, .slice (some ⟨g, 0, none⟩) a0.length (a0.length + 1)), (1, .slice ao1 a1.length cap1), (6, .string (bstr (b2s a0))), (7, .slice ao1 a1.length cap1)] (by kernel_rfl) fun a ha => ?_
  refine cvs ha rfl (by kernel_rfl) (by kernel_rfl) (by kernel_rfl) rfl rfl rfl f1 fun a ha => ?_
  refine seg ha 2 [(10, .bool ((bstr (b2s a0)).toList == (bstr (b2s a1)).toList)), (0, .slice (some ⟨g, 0, none⟩) a0.length (a0.length + 1)), (1, .slice ao1 a1.length cap1)] (by kernel_rfl) fun a ha => ?_
  rcases Bool.eq_false_or_eq_true ((bstr (b2s a0)).toList == (bstr (b2s a1)).toList) with hb | hb
  · have ha := ha.lit hb
    have hlen : a0.length = a1.length := by
      have h1 := eq_of_beq hb
      rw [ByteArray.toList_eq, ByteArray.toList_eq] at h1
      have := congrArg List.length h1
      simpa [bstr, b2s] using this
    have e8 : IntKind.i64.wrap ((a1.length : Int) + 1) = ((a1.length + 1 : Nat) : Int) := by rw [IntKind.wrap_i64]; omega
    refine sgh ha 4 [2, 2, 2, 2] [(10, .bool true), (1, .slice ao1 a1.length cap1), (11, .slice (some ⟨g, 0, none⟩) a0.length (a0.length + 1)), (14, .int .i64 (IntKind.i64.wrap ((a1.length : Int) + 1)))] (by kernel_rfl) fun a ha => ?_
    rw [e8] at ha
    refine slx (T := 5) (s := 1) ha (by kernel_rfl) (by kernel_rfl) rfl rfl (by omega) rfl rfl rfl fun a ha => ?_
    refine sgh ha 2 [2, 2] [(10, .bool true), (15, .slice (some ⟨g, 0, none⟩) (a1.length + 1) (a0.length + 1)), (17, .int .i64 a1.length)] (by kernel_rfl) fun a ha => ?_
    have hl2 : (List.replicate (a1.length + 1) (0 : Int)).length = a1.length + 1 := by simp
    refine hop (v := .pointer (some ⟨g, 0 + Int.toNat (a1.length : Int) * (rInt .u8).sz, none⟩)) (w' := w) ha rfl rfl rfl (ix_run (r := rInt .u8) (T := 5) (xs := List.replicate (a1.length + 1) (0 : Int)) (k := .i64) (i := (a1.length : Int)) ha (by kernel_rfl) (by kernel_rfl) (by rw [hl2]; rfl) rfl rfl (by omega) (by rw [hl2]; omega)) fun a ha => ?_
    refine ld (v := .int .u8 77) ha rfl (by kernel_rfl) rfl rfl rfl (hB.cell' (o := a0.length) (by simp [rInt, hlen]) (by rw [List.getElem?_append_right (by simp)]; simp)) fun a ha => ?_
    refine sgh ha 3 [2, 3, 0] [(4, .bool ((77 : Int) == 77))] (by kernel_rfl) fun a ha => ?_
    refine hK _ _ ?_; clear hK K
    refine wp_ret ?_
    refine rt1 ha rfl rfl ⟨?_, Chg.refl _ _, hM⟩
    rw [hb]; rfl
  · have ha := ha.lit hb
    refine sgh ha 12 [1, 1, 1, 1, 1, 1, 1, 1, 1, 1, 4, 0] [(4, .bool false)] (by kernel_rfl) fun a ha => ?_
    refine hK _ _ ?_; clear hK K
    refine wp_ret ?_
    refine rt1 ha rfl rfl ⟨?_, Chg.refl _ _, hM⟩
    rw [hb]
def Kept.f (a0 a1 : List Int) : Option Bool := some ((bstr (b2s a0)).toList == (bstr (b2s a1)).toList)
theorem Kept.walk (w : World) (M : List Nat) (hM : MS M w) (a0 : List Int) (ao0 : Option Addr) (cap0 : Nat) {M1 : List Nat} (f0 : Len w M1 ao0 cap0 a0) (a1 : List Int) (ao1 : Option Addr) (cap1 : Nat) (f1 : RSl (rInt .u8) 5 w M ao1 cap1 a1) (r : Bool) (H : Kept.f a0 a1 = some r) :
    To Try.prog 28 [.slice ao0 a0.length cap0, .slice ao1 a1.length cap1] w fun v w' => v = .bool r ∧ Chg [] w w' ∧ MS M w' := by
  obtain ⟨g, rfl, _, rfl, hl, hB⟩ := f0
  obtain rfl := Option.some.inj H
  exact Kept.go w M hM a0 g hB hl a1 ao1 cap1 f1


theorem Owned.go (w : World) (M : List Nat) (hM : MS M w) (gr : Nat) (rows : List Row) (hR : Rows w gr rows) (hl : rows.length ≤ 1000) (h0 : Cells w rows fun _ _ => True) :
    To Try.prog 29 [.slice (some ⟨gr, 0, none⟩) rows.length rows.length] w fun v w' => v = .bool true ∧ Chg (gsOf rows) w w' ∧ MS M w' ∧ Cells w' rows (fun i cur => ∃ c, cur = List.replicate c (.int .u8 (IntKind.u8.wrap ((i : Int) + 1)))) := by
  refine ent Try.func29 rfl [(0, .slice (some ⟨gr, 0, none⟩) rows.length rows.length)] rfl rfl fun a ha => ?_
  refine wp_seq_k fun K hK => ?_
  refine wp_region_lit ?_
  refine seg ha 1 [(0, .slice (some ⟨gr, 0, none⟩) rows.length rows.length)] (by kernel_rfl) fun a ha => ?_
  refine hK _ _ ?_; clear hK K
  refine wp_seq_k fun KA hKA => ?_
  refine wp_seq_k fun K hK => ?_
  refine wp_region_lit ?_
  refine seg ha 1 [(0, .slice (some ⟨gr, 0, none⟩) rows.length rows.length), (3, .int .i64 0)] (by kernel_rfl) fun a ha => ?_
  refine hK _ _ ?_; clear hK K
  have J1 : ∀ (a : Act) (w1 : World), Has a Try.f29.ntmps [(0, .slice (some ⟨gr, 0, none⟩) rows.length rows.length)] → Chg (gsOf rows) w w1 → Cells w1 rows (fun i cur => cur = List.replicate cur.length (.int .u8 (IntKind.u8.wrap ((i : Int) + 1)))) → KA a w1 := by
    intro a w1 ha hC hS
    refine hKA _ _ ?_
    have ewb : ∀ (j : Nat), j < rows.length → IntKind.u8.wrap (IntKind.i64.wrap ((j : Int) + 1)) = IntKind.u8.wrap ((j : Int) + 1) := fun j hj => by
      have : IntKind.i64.wrap ((j : Int) + 1) = (j : Int) + 1 := by rw [IntKind.wrap_i64]; omega
      rw [this]
    have hm : maxLen = 9223372036854775807 := rfl
    refine wp_seq_k fun KB hKB => ?_
    refine wp_seq_k fun K hK => ?_
    refine wp_region_lit ?_
    refine seg ha 1 [(0, .slice (some ⟨gr, 0, none⟩) rows.length rows.length), (6, .int .i64 0)] (by kernel_rfl) fun a ha => ?_
    refine hK _ _ ?_; clear hK K
    refine wp_block ?_
    refine wp_loop_ghost (fun kk a w1 => ∃ (i : Nat), kk + i = rows.length + 1 ∧ i ≤ rows.length ∧ Has a Try.f29.ntmps [(0, .slice (some ⟨gr, 0, none⟩) rows.length rows.length), (6, .int .i64 (i : Int))] ∧ Chg (gsOf rows) w w1 ∧ Cells w1 rows (fun j cur => cur = List.replicate cur.length (.int .u8 (IntKind.u8.wrap ((j : Int) + 1))))) (rows.length + 1) ?_ ?_
    · exact ⟨0, by omega, by omega, ha, hC, hS⟩
    · rintro kk a w1 ⟨i, hk, hi, ha, hC, hS⟩
      have hR1 := hR.keep hC
      refine wp_seq_k fun K1 hK1 => ?_
      refine wp_seq_k fun K2 hK2 => ?_
      refine wp_region_lit ?_
      refine seg ha 4 [(0, .slice (some ⟨gr, 0, none⟩) rows.length rows.length), (6, .int .i64 (i : Int)), (40, .bool (decide ((i : Int) < (rows.length : Int))))] (by kernel_rfl) fun a ha => ?_
      refine hK2 _ _ ?_; clear hK2 K2
      refine cnd ha rfl (fun hc => ?_) (fun hc => ?_)
      · refine wp_skip ?_
        refine hK1 _ _ ?_; clear hK1 K1
        have hlt : i < rows.length := by simpa using hc
        obtain ⟨r, hr⟩ : ∃ r, rows[i]? = some r := ⟨rows[i], by simp [hlt]⟩
        obtain ⟨hr1, hr2, hr3⟩ := hR.cap r (List.mem_of_getElem? hr)
        refine wp_seq_k fun K3 hK3 => ?_
        refine wp_block ?_
        refine wp_seq_k fun K4 hK4 => ?_
        refine drq0 (fun w' => Chg [] w1 w') (by kernel_rfl) (by kernel_rfl) (fun _ h => h) ?_
        have hrow : (rows.map Row.v)[i]? = some r.v := by simp [hr]
        refine qp 0 (.slice (some ⟨gr, 0, none⟩) rows.length rows.length) ha rfl rfl rfl (by kernel_rfl) fun a ha => ?_
        refine qp 0 (.int .i64 (i : Int)) ha rfl rfl rfl (by kernel_rfl) fun a ha => ?_
        refine qv ha rfl rfl rfl (fun w' _ => ixa (T := 44) ha (by kernel_rfl) (by kernel_rfl) rfl rfl (by omega) (by omega) w') fun a ha => ?_
        refine qv (v := r.v) ha rfl rfl rfl (fun w' hs => ld_run ha rfl (by kernel_rfl) ((Box.chg hR1.row hs (fun h => nomatch h)).cell' (o := i) (by simp) hrow)) fun a ha => ?_
        refine qp 0 (.slice (some ⟨gr, 0, none⟩) rows.length rows.length) ha rfl rfl rfl (by kernel_rfl) fun a ha => ?_
        refine qp 0 (.int .i64 (i : Int)) ha rfl rfl rfl (by kernel_rfl) fun a ha => ?_
        refine qv ha rfl rfl rfl (fun w' _ => ixa (T := 44) ha (by kernel_rfl) (by kernel_rfl) rfl rfl (by omega) (by omega) w') fun a ha => ?_
        refine qv (v := r.v) ha rfl rfl rfl (fun w' hs => ld_run ha rfl (by kernel_rfl) ((Box.chg hR1.row hs (fun h => nomatch h)).cell' (o := i) (by simp) hrow)) fun a ha => ?_
        refine qp 0 (.int .i64 (r.cap : Int)) ha rfl rfl rfl (by kernel_rfl) fun a ha => ?_
        refine qv (v := .slice r.ao r.cap r.cap) ha rfl rfl rfl (fun w' _ => slx_run (T := 5) (s := 1) ha (by kernel_rfl) (by kernel_rfl) rfl rfl w') fun a ha => ?_
        refine qp 0 (.slice r.ao r.cap r.cap) ha rfl rfl rfl (by kernel_rfl) fun a ha => ?_
        refine wpQuiet_nil ?_
        intro w2 hc2
        refine wpl_end ?_
        have ha := ha.sel (env' := [(0, .slice (some ⟨gr, 0, none⟩) rows.length rows.length), (6, .int .i64 (i : Int)), (7, .slice r.ao r.cap r.cap)]) (by kernel_rfl)
        refine hK4 _ _ ?_; clear hK4 K4
        have hC2 := hC.trans hc2 (Ok.nil _ _)
        have hS2 : Cells w2 rows (fun j cur => cur = List.replicate cur.length (.int .u8 (IntKind.u8.wrap ((j : Int) + 1)))) := fun j q g h1 h2 => by
          obtain ⟨cur, c1, c2, c3⟩ := hS j q g h1 h2
          exact ⟨cur, c1.chg hc2 (by simp), c2, c3⟩
        refine wp_seq_k fun K4 hK4 => ?_
        refine wp_region_lit ?_
        refine seg ha 1 [(0, .slice (some ⟨gr, 0, none⟩) rows.length rows.length), (6, .int .i64 (i : Int)), (7, .slice r.ao r.cap r.cap), (8, .int .i64 0)] (by kernel_rfl) fun a ha => ?_
        refine hK4 _ _ ?_; clear hK4 K4
        refine wp_block ?_
        refine wp_loop_ghost (fun kk a w3 => ∃ (k : Nat), kk + k = r.cap + 1 ∧ k ≤ r.cap ∧ w3 = w2 ∧ Has a Try.f29.ntmps [(0, .slice (some ⟨gr, 0, none⟩) rows.length rows.length), (6, .int .i64 (i : Int)), (7, .slice r.ao r.cap r.cap), (8, .int .i64 (k : Int))]) (r.cap + 1) ?_ ?_
        · exact ⟨0, by omega, by omega, rfl, ha⟩
        · rintro kk2 a w3 ⟨k, hkk, hkc, rfl, ha⟩
          refine wp_seq_k fun K5 hK5 => ?_
          refine wp_seq_k fun K6 hK6 => ?_
          refine wp_region_lit ?_
          refine seg ha 4 [(0, .slice (some ⟨gr, 0, none⟩) rows.length rows.length), (6, .int .i64 (i : Int)), (7, .slice r.ao r.cap r.cap), (8, .int .i64 (k : Int)), (56, .bool (decide ((k : Int) < (r.cap : Int))))] (by kernel_rfl) fun a ha => ?_
          refine hK6 _ _ ?_; clear hK6 K6
          refine cnd ha rfl (fun hc => ?_) (fun hc => ?_)
          · refine wp_skip ?_
            refine hK5 _ _ ?_; clear hK5 K5
            have hkl : k < r.cap := by simpa using hc
            obtain ⟨g, hg⟩ : ∃ g, r.g = some g := by
              cases hgg : r.g with
              | none => have := hr3 hgg; omega
              | some g => exact ⟨g, rfl⟩
            have hao : r.ao = some ⟨g, 0, none⟩ := by simp [Row.ao, hg]
            rw [hao] at ha
            obtain ⟨cur, c1, c2, c3⟩ := hS2 i r g hr hg
            refine wp_seq_k fun K6 hK6 => ?_
            refine wp_block ?_
            refine wp_seq_k fun K7 hK7 => ?_
            refine wp_region_lit ?_
            refine seg ha 2 [(0, .slice (some ⟨gr, 0, none⟩) rows.length rows.length), (6, .int .i64 (i : Int)), (7, .slice (some ⟨g, 0, none⟩) r.cap r.cap), (8, .int .i64 (k : Int)), (59, .slice (some ⟨g, 0, none⟩) r.cap r.cap), (60, .int .i64 (k : Int))] (by kernel_rfl) fun a ha => ?_
            refine hop ha rfl rfl rfl (ixa (T := 5) ha (by kernel_rfl) (by kernel_rfl) rfl rfl (by omega) (by omega) _) fun a ha => ?_
            refine ld (v := .int .u8 (IntKind.u8.wrap ((i : Int) + 1))) ha rfl (by kernel_rfl) rfl rfl rfl (c1.cell' (o := k) (by rw [Nat.zero_add, Int.toNat_natCast]) (by rw [c3, List.getElem?_replicate, if_pos (by omega)])) fun a ha => ?_
            refine seg ha 4 [(0, .slice (some ⟨gr, 0, none⟩) rows.length rows.length), (6, .int .i64 (i : Int)), (7, .slice (some ⟨g, 0, none⟩) r.cap r.cap), (8, .int .i64 (k : Int)), (66, .bool (IntKind.u8.wrap ((i : Int) + 1) != IntKind.u8.wrap (IntKind.i64.wrap ((i : Int) + 1))))] (by kernel_rfl) fun a ha => ?_
            refine hK7 _ _ ?_; clear hK7 K7
            refine cnd ha rfl (fun hx => ?_) (fun hx => ?_)
            · rw [ewb i hlt] at hx
              simp at hx
            · refine wp_skip ?_
              refine hK6 _ _ ?_; clear hK6 K6
              refine wp_region_lit ?_
              have e5 : IntKind.i64.wrap ((k : Int) + 1) = ((k + 1 : Nat) : Int) := by rw [IntKind.wrap_i64]; omega
              refine seg ha 3 [(0, .slice (some ⟨gr, 0, none⟩) rows.length rows.length), (6, .int .i64 (i : Int)), (7, .slice (some ⟨g, 0, none⟩) r.cap r.cap), (8, .int .i64 (IntKind.i64.wrap ((k : Int) + 1)))] (by kernel_rfl) fun a ha => ?_
              rw [e5, ← hao] at ha
              exact ⟨kk2 - 1, by omega, k + 1, by omega, by omega, rfl, ha⟩
          · refine wp_exit ?_
            simp only [Exit.then, Exit.inBlock, ↓reduceIte, Nat.reduceEqDiff]
            refine hK3 _ _ ?_
            refine wp_region_lit ?_
            have e3 : IntKind.i64.wrap ((i : Int) + 1) = ((i + 1 : Nat) : Int) := by rw [IntKind.wrap_i64]; omega
            refine seg ha 3 [(0, .slice (some ⟨gr, 0, none⟩) rows.length rows.length), (6, .int .i64 (IntKind.i64.wrap ((i : Int) + 1)))] (by kernel_rfl) fun a ha => ?_
            rw [e3] at ha
            exact ⟨kk - 1, by omega, i + 1, by omega, by omega, ha, hC2, hS2⟩
      · refine wp_exit ?_
        simp only [Exit.then, Exit.inBlock, ↓reduceIte, Nat.reduceEqDiff]
        refine hKB _ _ ?_
        refine wp_seq_k fun K hK => ?_
        refine wp_region_lit ?_
        refine seg ha 1 [(2, .bool true)] (by kernel_rfl) fun a ha => ?_
        refine hK _ _ ?_; clear hK K
        refine wp_ret ?_
        refine rt1 ha rfl rfl ⟨rfl, hC, hM.chg hC, fun j q g h1 h2 => ?_⟩
        obtain ⟨cur, c1, c2, c3⟩ := hS j q g h1 h2
        exact ⟨cur, c1, c2, _, c3⟩
  refine wp_block ?_
  refine wp_loop_ghost (fun kk a w1 => ∃ (i : Nat), kk + i = rows.length + 1 ∧ i ≤ rows.length ∧ Has a Try.f29.ntmps [(0, .slice (some ⟨gr, 0, none⟩) rows.length rows.length), (3, .int .i64 (i : Int))] ∧ Chg (gsOf rows) w w1 ∧ Cells w1 rows (fun j cur => j < i → cur = List.replicate cur.length (.int .u8 (IntKind.u8.wrap ((j : Int) + 1))))) (rows.length + 1) ?_ ?_
  · exact ⟨0, by omega, by omega, ha, Chg.refl _ _, fun i r g h1 h2 => by
      obtain ⟨cur, c1, c2, _⟩ := h0 i r g h1 h2
      exact ⟨cur, c1, c2, fun h => absurd h (Nat.not_lt_zero _)⟩⟩
  · rintro kk a w1 ⟨i, hk, hi, ha, hC, hS⟩
    have hR1 := hR.keep hC
    refine wp_seq_k fun K1 hK1 => ?_
    refine wp_seq_k fun K2 hK2 => ?_
    refine wp_region_lit ?_
    refine seg ha 4 [(0, .slice (some ⟨gr, 0, none⟩) rows.length rows.length), (3, .int .i64 (i : Int)), (12, .bool (decide ((i : Int) < (rows.length : Int))))] (by kernel_rfl) fun a ha => ?_
    refine hK2 _ _ ?_; clear hK2 K2
    refine cnd ha rfl (fun hc => ?_) (fun hc => ?_)
    · refine wp_skip ?_
      refine hK1 _ _ ?_; clear hK1 K1
      have hlt : i < rows.length := by simpa using hc
      obtain ⟨r, hr⟩ : ∃ r, rows[i]? = some r := ⟨rows[i], by simp [hlt]⟩
      obtain ⟨hr1, hr2, hr3⟩ := hR.cap r (List.mem_of_getElem? hr)
      refine wp_seq_k fun K3 hK3 => ?_
      refine wp_block ?_
      refine wp_seq_k fun K4 hK4 => ?_
      refine drq0 (fun w' => Chg [] w1 w') (by kernel_rfl) (by kernel_rfl) (fun _ h => h) ?_
      have hrow : (rows.map Row.v)[i]? = some r.v := by simp [hr]
      refine qp 0 (.slice (some ⟨gr, 0, none⟩) rows.length rows.length) ha rfl rfl rfl (by kernel_rfl) fun a ha => ?_
      refine qp 0 (.int .i64 (i : Int)) ha rfl rfl rfl (by kernel_rfl) fun a ha => ?_
      refine qv ha rfl rfl rfl (fun w' _ => ixa (T := 44) ha (by kernel_rfl) (by kernel_rfl) rfl rfl (by omega) (by omega) w') fun a ha => ?_
      refine qv (v := r.v) ha rfl rfl rfl (fun w' hs => ld_run ha rfl (by kernel_rfl) ((Box.chg hR1.row hs (fun h => nomatch h)).cell' (o := i) (by simp) hrow)) fun a ha => ?_
      refine qp 0 (.slice (some ⟨gr, 0, none⟩) rows.length rows.length) ha rfl rfl rfl (by kernel_rfl) fun a ha => ?_
      refine qp 0 (.int .i64 (i : Int)) ha rfl rfl rfl (by kernel_rfl) fun a ha => ?_
      refine qv ha rfl rfl rfl (fun w' _ => ixa (T := 44) ha (by kernel_rfl) (by kernel_rfl) rfl rfl (by omega) (by omega) w') fun a ha => ?_
      refine qv (v := r.v) ha rfl rfl rfl (fun w' hs => ld_run ha rfl (by kernel_rfl) ((Box.chg hR1.row hs (fun h => nomatch h)).cell' (o := i) (by simp) hrow)) fun a ha => ?_
      refine qp 0 (.int .i64 (r.cap : Int)) ha rfl rfl rfl (by kernel_rfl) fun a ha => ?_
      refine qv (v := .slice r.ao r.cap r.cap) ha rfl rfl rfl (fun w' _ => slx_run (T := 5) (s := 1) ha (by kernel_rfl) (by kernel_rfl) rfl rfl w') fun a ha => ?_
      refine qp 0 (.slice r.ao r.cap r.cap) ha rfl rfl rfl (by kernel_rfl) fun a ha => ?_
      refine wpQuiet_nil ?_
      intro w2 hc2
      refine wpl_end ?_
      have ha := ha.sel (env' := [(0, .slice (some ⟨gr, 0, none⟩) rows.length rows.length), (3, .int .i64 (i : Int)), (4, .slice r.ao r.cap r.cap)]) (by kernel_rfl)
      refine hK4 _ _ ?_; clear hK4 K4
      have hC2 := hC.trans hc2 (Ok.nil _ _)
      have hS2 : Cells w2 rows (fun j cur => j < i → cur = List.replicate cur.length (.int .u8 (IntKind.u8.wrap ((j : Int) + 1)))) := fun j q g h1 h2 => by
        obtain ⟨cur, c1, c2, c3⟩ := hS j q g h1 h2
        exact ⟨cur, c1.chg hc2 (by simp), c2, c3⟩
      refine wp_seq_k fun K4 hK4 => ?_
      refine wp_region_lit ?_
      refine seg ha 1 [(0, .slice (some ⟨gr, 0, none⟩) rows.length rows.length), (3, .int .i64 (i : Int)), (4, .slice r.ao r.cap r.cap), (5, .int .i64 0)] (by kernel_rfl) fun a ha => ?_
      refine hK4 _ _ ?_; clear hK4 K4
      have ewb : ∀ (j : Nat), j < rows.length → IntKind.u8.wrap (IntKind.i64.wrap ((j : Int) + 1)) = IntKind.u8.wrap ((j : Int) + 1) := fun j hj => by
        have : IntKind.i64.wrap ((j : Int) + 1) = (j : Int) + 1 := by rw [IntKind.wrap_i64]; omega
        rw [this]
      have hm : maxLen = 9223372036854775807 := rfl
      refine wp_block ?_
      refine wp_loop_ghost (fun kk a w3 => ∃ (k : Nat), kk + k = r.cap + 1 ∧ k ≤ r.cap ∧ Has a Try.f29.ntmps [(0, .slice (some ⟨gr, 0, none⟩) rows.length rows.length), (3, .int .i64 (i : Int)), (4, .slice r.ao r.cap r.cap), (5, .int .i64 (k : Int))] ∧ Chg (gsOf rows) w w3 ∧
        Cells w3 rows (fun j cur => (j < i → cur = List.replicate cur.length (.int .u8 (IntKind.u8.wrap ((j : Int) + 1)))) ∧ (j = i → cur.take k = List.replicate k (.int .u8 (IntKind.u8.wrap ((j : Int) + 1)))))) (r.cap + 1) ?_ ?_
      · exact ⟨0, by omega, by omega, ha, hC2, fun j q g h1 h2 => by
          obtain ⟨cur, c1, c2, c3⟩ := hS2 j q g h1 h2
          exact ⟨cur, c1, c2, c3, fun _ => by simp⟩⟩
      · rintro kk2 a w3 ⟨k, hkk, hkc, ha, hC3, hS3⟩
        refine wp_seq_k fun K5 hK5 => ?_
        refine wp_seq_k fun K6 hK6 => ?_
        refine wp_region_lit ?_
        refine seg ha 4 [(0, .slice (some ⟨gr, 0, none⟩) rows.length rows.length), (3, .int .i64 (i : Int)), (4, .slice r.ao r.cap r.cap), (5, .int .i64 (k : Int)), (28, .bool (decide ((k : Int) < (r.cap : Int))))] (by kernel_rfl) fun a ha => ?_
        refine hK6 _ _ ?_; clear hK6 K6
        refine cnd ha rfl (fun hc => ?_) (fun hc => ?_)
        · refine wp_skip ?_
          refine hK5 _ _ ?_; clear hK5 K5
          have hkl : k < r.cap := by simpa using hc
          obtain ⟨g, hg⟩ : ∃ g, r.g = some g := by
            cases hgg : r.g with
            | none => have := hr3 hgg; omega
            | some g => exact ⟨g, rfl⟩
          have hao : r.ao = some ⟨g, 0, none⟩ := by simp [Row.ao, hg]
          rw [hao] at ha
          obtain ⟨cur, c1, c2, c3, c4⟩ := hS3 i r g hr hg
          refine wp_seq_k fun K6 hK6 => ?_
          refine wp_block ?_
          refine wp_region_lit ?_
          refine seg ha 5 [(0, .slice (some ⟨gr, 0, none⟩) rows.length rows.length), (3, .int .i64 (i : Int)), (4, .slice (some ⟨g, 0, none⟩) r.cap r.cap), (5, .int .i64 (k : Int)), (31, .slice (some ⟨g, 0, none⟩) r.cap r.cap), (32, .int .i64 (k : Int)), (35, .int .u8 (IntKind.u8.wrap (IntKind.i64.wrap ((i : Int) + 1))))] (by kernel_rfl) fun a ha => ?_
          refine hop ha rfl rfl rfl (ixa (T := 5) ha (by kernel_rfl) (by kernel_rfl) rfl rfl (by omega) (by omega) _) fun a ha => ?_
          refine st (cs := cur) (g := g) (o' := k) ha rfl rfl (by simp) (by kernel_rfl) rfl rfl c1 (by omega) fun a w4 ha hB4 hc4 _ => ?_
          refine wpl_end ?_
          have ha := ha.sel (env' := [(0, .slice (some ⟨gr, 0, none⟩) rows.length rows.length), (3, .int .i64 (i : Int)), (4, .slice (some ⟨g, 0, none⟩) r.cap r.cap), (5, .int .i64 (k : Int))]) (by kernel_rfl)
          refine hK6 _ _ ?_; clear hK6 K6
          refine wp_region_lit ?_
          have e5 : IntKind.i64.wrap ((k : Int) + 1) = ((k + 1 : Nat) : Int) := by rw [IntKind.wrap_i64]; omega
          refine seg ha 3 [(0, .slice (some ⟨gr, 0, none⟩) rows.length rows.length), (3, .int .i64 (i : Int)), (4, .slice (some ⟨g, 0, none⟩) r.cap r.cap), (5, .int .i64 (IntKind.i64.wrap ((k : Int) + 1)))] (by kernel_rfl) fun a ha => ?_
          rw [e5, ← hao] at ha
          refine ⟨kk2 - 1, by omega, k + 1, by omega, by omega, ha, hC3.trans hc4 (Ok.one (.inl (gs_mem hr hg))), fun j q g2 h1 h2 => ?_⟩
          by_cases hji : j = i
          · subst hji
            have hq : q = r := Option.some.inj (h1.symm.trans hr)
            subst hq
            have hgg : g2 = g := Option.some.inj (h2.symm.trans hg)
            subst hgg
            refine ⟨_, hB4, by simp [c2], fun h => absurd h (Nat.lt_irrefl _), fun _ => ?_⟩
            rw [ewb j hlt, List.replicate_succ', ← c4 rfl]
            rw [List.take_add_one]
            have hklen : k < cur.length := by omega
            rw [List.take_set_of_le (Nat.le_refl _)]
            simp [hklen]
          · have hne : g2 ≠ g := fun e => hji (hR.one j i q r g h1 hr (e ▸ h2) hg)
            obtain ⟨cu, b1, b2, b3, b4⟩ := hS3 j q g2 h1 h2
            exact ⟨cu, b1.chg hc4 (by simpa using hne), b2, b3, fun e => absurd e hji⟩
        · refine wp_exit ?_
          simp only [Exit.then, Exit.inBlock, ↓reduceIte, Nat.reduceEqDiff]
          have hkc' : k = r.cap := by
            have : ¬ k < r.cap := by simpa using hc
            omega
          subst hkc'
          refine hK3 _ _ ?_
          refine wp_region_lit ?_
          have e3 : IntKind.i64.wrap ((i : Int) + 1) = ((i + 1 : Nat) : Int) := by rw [IntKind.wrap_i64]; omega
          refine seg ha 3 [(0, .slice (some ⟨gr, 0, none⟩) rows.length rows.length), (3, .int .i64 (IntKind.i64.wrap ((i : Int) + 1)))] (by kernel_rfl) fun a ha => ?_
          rw [e3] at ha
          refine ⟨kk - 1, by omega, i + 1, by omega, by omega, ha, hC3, fun j q g2 h1 h2 => ?_⟩
          obtain ⟨cu, b1, b2, b3, b4⟩ := hS3 j q g2 h1 h2
          refine ⟨cu, b1, b2, fun hj => ?_⟩
          by_cases hji : j = i
          · have hq : q = r := by subst hji; exact Option.some.inj (h1.symm.trans hr)
            subst hq
            have := b4 hji
            rw [← b2, List.take_length] at this
            exact this
          · exact b3 (by omega)
    · refine wp_exit ?_
      simp only [Exit.then, Exit.inBlock, ↓reduceIte, Nat.reduceEqDiff]
      have hge : i = rows.length := by
        have : ¬ i < rows.length := by simpa using hc
        omega
      subst hge
      exact J1 _ _ (ha.sel (by kernel_rfl)) hC (fun j q g h1 h2 => by
        obtain ⟨cur, c1, c2, c3⟩ := hS j q g h1 h2
        exact ⟨cur, c1, c2, c3 (List.getElem?_eq_some_iff.1 h1).1⟩)
theorem Owned.call (w : World) (M : List Nat) (hM : MS M w) (gr : Nat) (l : List (Option Addr × Nat × Nat)) (gs : List Nat) (h : ∀ q ∈ l, RowOk w q) (hp : l.Pairwise (fun p q => ∀ x ∈ blkL p.1, x ∉ blkL q.1)) (ho : ∀ q ∈ l, gr ∉ blkL q.1) (hB : Box w gr (l.map fun q => .slice q.1 q.2.1 q.2.2)) (hl : l.length ≤ 1000) (hgs : ∀ q ∈ l, ∀ x ∈ blkL q.1, x ∈ gs) :
    To Try.prog 29 [.slice (some ⟨gr, 0, none⟩) l.length l.length] w fun v w' => v = .bool true ∧ Chg gs w w' ∧ MS M w' := by
  obtain ⟨h1, h2, h3⟩ := rows_of l h hp ho hB
  have e : (l.map rowOf).length = l.length := by simp
  have := Owned.go w M hM gr (l.map rowOf) h1 (by omega) h2
  rw [e] at this
  exact this.mono fun v w' ⟨e, hc, hm, _⟩ => ⟨e, hc.mono (fun x hx => .inl (h3 gs hgs x hx)), hm⟩

def vinerylaw05_LabelCodes.f (k : Nat) (a0 : Int) (a1 : Bool) (a2 : List Int) : Option (Bool) := (vinerylaw05_small.f k ).bind fun t4 => (if (decide ((a2.length : Int) > (4096 : Int))) = true then some ((t4 : Bool)) else (Lent.f a2).bind fun t10 => (label_Bytes.f k a0 a1).bind fun t13 => (label_Read.f k t10).bind fun t16 => (vineryref05_Bytes.f k a0 a1).bind fun t18 => (vineryref05_Read.f k a2).bind fun t21 => (Kept.f t10 a2).bind fun t23 => some ((if (if (if (if (if (if (if t4 = true then t23 else false) = true then ((bstr (b2s t13.1)).toList == (bstr (b2s t18.1)).toList) else false) = true then true else false) = true then (t13.2 == t18.2) else false) = true then (t16.1 == t21.1) else false) = true then (t16.2.1 == t21.2.1) else false) = true then (t16.2.2 == t21.2.2) else false : Bool)))
set_option maxRecDepth 100000 in
theorem vinerylaw05_LabelCodes.walk (w : World) (M : List Nat) (hM : MS M w) (a0 : Int) (a1 : Bool) (a2 : List Int) (ao1 : Option Addr) (cap1 : Nat) (f1 : RSl (rInt .u8) 5 w M ao1 cap1 a2) (k : Nat) (r : Bool) (H : vinerylaw05_LabelCodes.f k a0 a1 a2 = some r) :
    To Try.prog 6 [.int .i64 a0, .bool a1, .slice ao1 a2.length cap1] w fun v w' => v = .bool r ∧ Chg [] w w' ∧ MS (M) w' := by
 unfold vinerylaw05_LabelCodes.f at H
 refine ent Try.func6 rfl [(0, .int .i64 a0), (1, .bool a1), (2, .slice ao1 a2.length cap1)] rfl (by rfl) fun a ha => ?_
 have hC : Chg [] w w := Chg.refl _ _
 refine wp_seq_k fun K2 hK2 => ?_
 refine wp_region_lit ?_
 refine seg ha 1 [(0, .int .i64 a0), (1, .bool a1), (2, .slice ao1 a2.length cap1)] (by kernel_rfl) fun a ha => ?_
 refine hK2 _ _ ?_; try clear hK2 K2
 refine wp_seq_k fun K3 hK3 => ?_
 refine wp_region_lit ?_
 obtain ⟨t4, H4, H⟩ := bind_some H
 refine cl ha (by rfl) (by kernel_rfl) (by rfl) (by rfl) (by rfl) (vinerylaw05_small.walk w _ hM  k _ H4) ?_
 rintro _ w4 ⟨rfl, hc4, hMn⟩ a ha
 have o1 : Ok [] (M) w.heap.size := Ok.nil _ _
 have o2 : Ok (M) (M) w.heap.size := (Ok.refl _ _)
 have f1 := f1.chg hc4 o1 o2
 have hM : MS (M) w4 := (hM.chg hc4)
 have hC := hC.trans hc4 (Ok.nil _ _)
 refine seg ha 1 [(0, .int .i64 a0), (1, .bool a1), (2, .slice ao1 a2.length cap1), (7, .bool t4)] (by kernel_rfl) fun a ha => ?_
 refine hK3 _ _ ?_; try clear hK3 K3
 refine wp_seq_k fun K5 hK5 => ?_
 refine wp_seq_k fun K6 hK6 => ?_
 refine wp_region_lit ?_
 refine seg ha 3 [(0, .int .i64 a0), (1, .bool a1), (2, .slice ao1 a2.length cap1), (7, .bool t4), (25, .bool (decide ((a2.length : Int) > (4096 : Int))))] (by kernel_rfl) fun a ha => ?_
 refine hK6 _ _ ?_; try clear hK6 K6
 refine cnd ha rfl (fun hc7 => ?_) (fun hc7 => ?_)
 ·have H := ite_t hc7 H
  refine wp_seq_k fun K8 hK8 => ?_
  refine wp_region_lit ?_
  refine seg ha 2 [(6, .bool t4)] (by kernel_rfl) fun a ha => ?_
  refine hK8 _ _ ?_; try clear hK8 K8
  refine wp_ret ?_
  try simp only [Exit.then, Exit.inBlock]
  obtain rfl := Option.some.inj H
  refine rt1 ha rfl rfl ?_
  exact ⟨rfl, hC, hM⟩
 ·have H := ite_f hc7 H
  refine wp_skip ?_
  refine hK5 _ _ ?_; try clear hK5 K5
  refine wp_seq_k fun K9 hK9 => ?_
  refine wp_region_lit ?_
  refine seg ha 1 [(0, .int .i64 a0), (1, .bool a1), (2, .slice ao1 a2.length cap1), (7, .bool t4), (27, .slice ao1 a2.length cap1)] (by kernel_rfl) fun a ha => ?_
  obtain ⟨t10, H10, H⟩ := bind_some H
  refine cl ha (by rfl) (by kernel_rfl) (by rfl) (by rfl) (by rfl) (Lent.walk w4 _ hM a2 ao1 cap1 f1 _ H10) ?_
  rintro _ w10 ⟨ao11, cap11, rfl, f11, ne_i11, hc10, hMn⟩ a ha
  have o1 : Ok [] (M) w4.heap.size := Ok.nil _ _
  have o2 : Ok (blkL ao11 ++ (M)) (M) w4.heap.size := (Ok.app (fun x h => .inr (ne_i11 x h)) (Ok.refl _ _))
  have f1 := f1.chg hc10 o1 o2
  have p_i11_M : ∀ x ∈ blkL ao11, x ∉ M := fun x hx hy => absurd (hM x (hy)) (Nat.not_lt.2 (ne_i11 x hx))
  have e_i11 : ∀ x ∈ blkL ao11, w.heap.size ≤ x := fun x hx => Nat.le_trans hC.size (ne_i11 x hx)
  have hM : MS (blkL ao11 ++ (M)) w10 := (MS.app (fun x h => hMn x (ml h)) (hM.chg hc10))
  have hC := hC.trans hc10 (Ok.nil _ _)
  refine seg ha 1 [(0, .int .i64 a0), (1, .bool a1), (2, .slice ao1 a2.length cap1), (7, .bool t4), (8, .slice ao11 t10.length cap11)] (by kernel_rfl) fun a ha => ?_
  refine hK9 _ _ ?_; try clear hK9 K9
  refine wp_seq_k fun K12 hK12 => ?_
  refine wp_region_lit ?_
  refine seg ha 2 [(0, .int .i64 a0), (1, .bool a1), (2, .slice ao1 a2.length cap1), (7, .bool t4), (8, .slice ao11 t10.length cap11), (30, .int .i64 a0), (31, .bool a1)] (by kernel_rfl) fun a ha => ?_
  obtain ⟨t13, H13, H⟩ := bind_some H
  refine cl ha (by rfl) (by kernel_rfl) (by rfl) (by rfl) (by rfl) (label_Bytes.walk w10 _ hM a0 a1 k _ H13) ?_
  rintro _ w13 ⟨ao14, cap14, rfl, f14, ne_i14, hc13, hMn⟩ a ha
  have o1 : Ok [] (blkL ao11 ++ (M)) w10.heap.size := Ok.nil _ _
  have o2 : Ok (blkL ao14 ++ (blkL ao11 ++ (M))) (blkL ao11 ++ (M)) w10.heap.size := (Ok.app (fun x h => .inr (ne_i14 x h)) (Ok.refl _ _))
  have f1 := f1.chg hc13 o1 o2
  have f11 := f11.chg hc13 o1 o2 (fun _ _ h => nomatch h) (fun _ h => mr (ml h))
  have p_i14_i11 : ∀ x ∈ blkL ao14, x ∉ (blkL ao11) := fun x hx hy => absurd (hM x (ml hy)) (Nat.not_lt.2 (ne_i14 x hx))
  have p_i14_M : ∀ x ∈ blkL ao14, x ∉ M := fun x hx hy => absurd (hM x (mr (hy))) (Nat.not_lt.2 (ne_i14 x hx))
  have e_i14 : ∀ x ∈ blkL ao14, w.heap.size ≤ x := fun x hx => Nat.le_trans hC.size (ne_i14 x hx)
  have hM : MS (blkL ao14 ++ (blkL ao11 ++ (M))) w13 := (MS.app (fun x h => hMn x (ml h)) (hM.chg hc13))
  have hC := hC.trans hc13 (Ok.nil _ _)
  refine seg ha 5 [(0, .int .i64 a0), (1, .bool a1), (2, .slice ao1 a2.length cap1), (7, .bool t4), (8, .slice ao11 t10.length cap11), (9, .slice ao14 t13.1.length cap14), (10, .int .i64 t13.2)] (by kernel_rfl) fun a ha => ?_
  refine hK12 _ _ ?_; try clear hK12 K12
  refine wp_seq_k fun K15 hK15 => ?_
  refine wp_region_lit ?_
  refine seg ha 1 [(0, .int .i64 a0), (1, .bool a1), (2, .slice ao1 a2.length cap1), (7, .bool t4), (8, .slice ao11 t10.length cap11), (9, .slice ao14 t13.1.length cap14), (10, .int .i64 t13.2), (36, .slice ao11 t10.length cap11)] (by kernel_rfl) fun a ha => ?_
  have hML : MS (blkL ao14 ++ (M)) w13 := MS.rest hM (fun _ h => (List.mem_append.1 h).elim (fun h => ml h) (fun h => mr (mr (h))))
  have oL : Ok (blkL ao14 ++ (M)) (blkL ao14 ++ (blkL ao11 ++ (M))) w13.heap.size := (Ok.app (fun _ h => .inl (ml h)) (fun _ h => .inl (mr (mr (h)))))
  obtain ⟨t16, H16, H⟩ := bind_some H
  refine cl ha (by rfl) (by kernel_rfl) (by rfl) (by rfl) (by rfl) (label_Read.walk w13 _ hML t10 ao11 cap11 (Len.toRSl (T := 5) (M' := blkL ao14 ++ (M)) f11 oL (fun x hx hm => (List.mem_append.1 hm).elim (fun h => (fun x hx hy => p_i14_i11 x hy hx) x hx h) (fun h => p_i11_M x hx h))) k _ H16) ?_
  rintro _ w16 ⟨rfl, hc16, hMn⟩ a ha
  have o1 : Ok [] (blkL ao14 ++ (blkL ao11 ++ (M))) w13.heap.size := Ok.nil _ _
  have o2 : Ok (blkL ao14 ++ (blkL ao11 ++ (M))) (blkL ao14 ++ (blkL ao11 ++ (M))) w13.heap.size := (Ok.refl _ _)
  have f1 := f1.chg hc16 o1 o2
  have f11 := f11.chg hc16 o1 o2 (fun _ _ h => nomatch h) (fun _ h => mr (ml h))
  have f14 := f14.chg hc16 o1 o2 (fun _ _ h => nomatch h) (fun _ h => ml h)
  have hM : MS (blkL ao14 ++ (blkL ao11 ++ (M))) w16 := (hM.chg hc16)
  have hC := hC.trans hc16 (Ok.nil _ _)
  refine seg ha 7 [(0, .int .i64 a0), (1, .bool a1), (2, .slice ao1 a2.length cap1), (7, .bool t4), (8, .slice ao11 t10.length cap11), (9, .slice ao14 t13.1.length cap14), (10, .int .i64 t13.2), (11, .int .i64 t16.1), (12, .bool t16.2.1), (13, .int .i64 t16.2.2)] (by kernel_rfl) fun a ha => ?_
  refine hK15 _ _ ?_; try clear hK15 K15
  refine wp_seq_k fun K17 hK17 => ?_
  refine wp_region_lit ?_
  refine seg ha 2 [(2, .slice ao1 a2.length cap1), (7, .bool t4), (8, .slice ao11 t10.length cap11), (9, .slice ao14 t13.1.length cap14), (10, .int .i64 t13.2), (11, .int .i64 t16.1), (12, .bool t16.2.1), (13, .int .i64 t16.2.2), (42, .int .i64 a0), (43, .bool a1)] (by kernel_rfl) fun a ha => ?_
  obtain ⟨t18, H18, H⟩ := bind_some H
  refine cl ha (by rfl) (by kernel_rfl) (by rfl) (by rfl) (by rfl) (vineryref05_Bytes.walk w16 _ hM a0 a1 k _ H18) ?_
  rintro _ w18 ⟨ao19, cap19, rfl, f19, ne_i19, hc18, hMn⟩ a ha
  have o1 : Ok [] (blkL ao14 ++ (blkL ao11 ++ (M))) w16.heap.size := Ok.nil _ _
  have o2 : Ok (blkL ao19 ++ (blkL ao14 ++ (blkL ao11 ++ (M)))) (blkL ao14 ++ (blkL ao11 ++ (M))) w16.heap.size := (Ok.app (fun x h => .inr (ne_i19 x h)) (Ok.refl _ _))
  have f1 := f1.chg hc18 o1 o2
  have f11 := f11.chg hc18 o1 o2 (fun _ _ h => nomatch h) (fun _ h => mr (mr (ml h)))
  have f14 := f14.chg hc18 o1 o2 (fun _ _ h => nomatch h) (fun _ h => mr (ml h))
  have p_i19_i14 : ∀ x ∈ blkL ao19, x ∉ (blkL ao14) := fun x hx hy => absurd (hM x (ml hy)) (Nat.not_lt.2 (ne_i19 x hx))
  have p_i19_i11 : ∀ x ∈ blkL ao19, x ∉ (blkL ao11) := fun x hx hy => absurd (hM x (mr (ml hy))) (Nat.not_lt.2 (ne_i19 x hx))
  have p_i19_M : ∀ x ∈ blkL ao19, x ∉ M := fun x hx hy => absurd (hM x (mr (mr (hy)))) (Nat.not_lt.2 (ne_i19 x hx))
  have e_i19 : ∀ x ∈ blkL ao19, w.heap.size ≤ x := fun x hx => Nat.le_trans hC.size (ne_i19 x hx)
  have hM : MS (blkL ao19 ++ (blkL ao14 ++ (blkL ao11 ++ (M)))) w18 := (MS.app (fun x h => hMn x (ml h)) (hM.chg hc18))
  have hC := hC.trans hc18 (Ok.nil _ _)
  refine seg ha 5 [(2, .slice ao1 a2.length cap1), (7, .bool t4), (8, .slice ao11 t10.length cap11), (9, .slice ao14 t13.1.length cap14), (10, .int .i64 t13.2), (11, .int .i64 t16.1), (12, .bool t16.2.1), (13, .int .i64 t16.2.2), (14, .slice ao19 t18.1.length cap19), (15, .int .i64 t18.2)] (by kernel_rfl) fun a ha => ?_
  refine hK17 _ _ ?_; try clear hK17 K17
  refine wp_seq_k fun K20 hK20 => ?_
  refine wp_region_lit ?_
  refine seg ha 1 [(2, .slice ao1 a2.length cap1), (7, .bool t4), (8, .slice ao11 t10.length cap11), (9, .slice ao14 t13.1.length cap14), (10, .int .i64 t13.2), (11, .int .i64 t16.1), (12, .bool t16.2.1), (13, .int .i64 t16.2.2), (14, .slice ao19 t18.1.length cap19), (15, .int .i64 t18.2), (48, .slice ao1 a2.length cap1)] (by kernel_rfl) fun a ha => ?_
  obtain ⟨t21, H21, H⟩ := bind_some H
  refine cl ha (by rfl) (by kernel_rfl) (by rfl) (by rfl) (by rfl) (vineryref05_Read.walk w18 _ hM a2 ao1 cap1 f1 k _ H21) ?_
  rintro _ w21 ⟨rfl, hc21, hMn⟩ a ha
  have o1 : Ok [] (blkL ao19 ++ (blkL ao14 ++ (blkL ao11 ++ (M)))) w18.heap.size := Ok.nil _ _
  have o2 : Ok (blkL ao19 ++ (blkL ao14 ++ (blkL ao11 ++ (M)))) (blkL ao19 ++ (blkL ao14 ++ (blkL ao11 ++ (M)))) w18.heap.size := (Ok.refl _ _)
  have f1 := f1.chg hc21 o1 o2
  have f11 := f11.chg hc21 o1 o2 (fun _ _ h => nomatch h) (fun _ h => mr (mr (ml h)))
  have f14 := f14.chg hc21 o1 o2 (fun _ _ h => nomatch h) (fun _ h => mr (ml h))
  have f19 := f19.chg hc21 o1 o2 (fun _ _ h => nomatch h) (fun _ h => ml h)
  have hM : MS (blkL ao19 ++ (blkL ao14 ++ (blkL ao11 ++ (M)))) w21 := (hM.chg hc21)
  have hC := hC.trans hc21 (Ok.nil _ _)
  refine seg ha 7 [(2, .slice ao1 a2.length cap1), (7, .bool t4), (8, .slice ao11 t10.length cap11), (9, .slice ao14 t13.1.length cap14), (10, .int .i64 t13.2), (11, .int .i64 t16.1), (12, .bool t16.2.1), (13, .int .i64 t16.2.2), (14, .slice ao19 t18.1.length cap19), (15, .int .i64 t18.2), (16, .int .i64 t21.1), (17, .bool t21.2.1), (18, .int .i64 t21.2.2)] (by kernel_rfl) fun a ha => ?_
  refine hK20 _ _ ?_; try clear hK20 K20
  refine wp_seq_k fun K22 hK22 => ?_
  refine wp_region_lit ?_
  refine seg ha 2 [(7, .bool t4), (8, .slice ao11 t10.length cap11), (9, .slice ao14 t13.1.length cap14), (10, .int .i64 t13.2), (11, .int .i64 t16.1), (12, .bool t16.2.1), (13, .int .i64 t16.2.2), (14, .slice ao19 t18.1.length cap19), (15, .int .i64 t18.2), (16, .int .i64 t21.1), (17, .bool t21.2.1), (18, .int .i64 t21.2.2), (53, .slice ao11 t10.length cap11), (54, .slice ao1 a2.length cap1)] (by kernel_rfl) fun a ha => ?_
  obtain ⟨t23, H23, H⟩ := bind_some H
  refine cl ha (by rfl) (by kernel_rfl) (by rfl) (by rfl) (by rfl) (Kept.walk w21 _ hM t10 ao11 cap11 f11 a2 ao1 cap1 f1 _ H23) ?_
  rintro _ w23 ⟨rfl, hc23, hMn⟩ a ha
  have o1 : Ok [] (blkL ao19 ++ (blkL ao14 ++ (blkL ao11 ++ (M)))) w21.heap.size := Ok.nil _ _
  have o2 : Ok (blkL ao19 ++ (blkL ao14 ++ (blkL ao11 ++ (M)))) (blkL ao19 ++ (blkL ao14 ++ (blkL ao11 ++ (M)))) w21.heap.size := (Ok.refl _ _)
  have f11 := f11.chg hc23 o1 o2 (fun _ _ h => nomatch h) (fun _ h => mr (mr (ml h)))
  have f14 := f14.chg hc23 o1 o2 (fun _ _ h => nomatch h) (fun _ h => mr (ml h))
  have f19 := f19.chg hc23 o1 o2 (fun _ _ h => nomatch h) (fun _ h => ml h)
  have f1 := f1.chg hc23 o1 o2
  have hM : MS (blkL ao19 ++ (blkL ao14 ++ (blkL ao11 ++ (M)))) w23 := (hM.chg hc23)
  have hC := hC.trans hc23 (Ok.nil _ _)
  refine seg ha 1 [(7, .bool t4), (8, .slice ao11 t10.length cap11), (9, .slice ao14 t13.1.length cap14), (10, .int .i64 t13.2), (11, .int .i64 t16.1), (12, .bool t16.2.1), (13, .int .i64 t16.2.2), (14, .slice ao19 t18.1.length cap19), (15, .int .i64 t18.2), (16, .int .i64 t21.1), (17, .bool t21.2.1), (18, .int .i64 t21.2.2), (19, .bool t23)] (by kernel_rfl) fun a ha => ?_
  refine hK22 _ _ ?_; try clear hK22 K22
  refine wp_seq_k fun K24 hK24 => ?_
  refine wp_region_lit ?_
  refine seg ha 1 [(7, .bool t4), (8, .slice ao11 t10.length cap11), (9, .slice ao14 t13.1.length cap14), (10, .int .i64 t13.2), (11, .int .i64 t16.1), (12, .bool t16.2.1), (13, .int .i64 t16.2.2), (14, .slice ao19 t18.1.length cap19), (15, .int .i64 t18.2), (16, .int .i64 t21.1), (17, .bool t21.2.1), (18, .int .i64 t21.2.2), (19, .bool t23), (56, .slice ao14 t13.1.length cap14)] (by kernel_rfl) fun a ha => ?_
  refine cvs ha rfl (by kernel_rfl) (by kernel_rfl) (by kernel_rfl) rfl rfl rfl (Own.toRSl (M' := []) f14 (Ok.nil _ _) (fun _ _ h => nomatch h)) fun a ha => ?_
  refine seg ha 1 [(7, .bool t4), (8, .slice ao11 t10.length cap11), (9, .slice ao14 t13.1.length cap14), (10, .int .i64 t13.2), (11, .int .i64 t16.1), (12, .bool t16.2.1), (13, .int .i64 t16.2.2), (15, .int .i64 t18.2), (16, .int .i64 t21.1), (17, .bool t21.2.1), (18, .int .i64 t21.2.2), (19, .bool t23), (57, .string (bstr (b2s t13.1))), (58, .slice ao19 t18.1.length cap19)] (by kernel_rfl) fun a ha => ?_
  refine cvs ha rfl (by kernel_rfl) (by kernel_rfl) (by kernel_rfl) rfl rfl rfl (Own.toRSl (M' := []) f19 (Ok.nil _ _) (fun _ _ h => nomatch h)) fun a ha => ?_
  refine seg ha 2 [(7, .bool t4), (8, .slice ao11 t10.length cap11), (9, .slice ao14 t13.1.length cap14), (10, .int .i64 t13.2), (11, .int .i64 t16.1), (12, .bool t16.2.1), (13, .int .i64 t16.2.2), (15, .int .i64 t18.2), (16, .int .i64 t21.1), (17, .bool t21.2.1), (18, .int .i64 t21.2.2), (19, .bool t23), (20, .bool ((bstr (b2s t13.1)).toList == (bstr (b2s t18.1)).toList))] (by kernel_rfl) fun a ha => ?_
  refine hK24 _ _ ?_; try clear hK24 K24
  refine wp_seq_k fun K25 hK25 => ?_
  refine wp_region_lit ?_
  refine seg ha 2 [(7, .bool t4), (10, .int .i64 t13.2), (11, .int .i64 t16.1), (12, .bool t16.2.1), (13, .int .i64 t16.2.2), (15, .int .i64 t18.2), (16, .int .i64 t21.1), (17, .bool t21.2.1), (18, .int .i64 t21.2.2), (19, .bool t23), (20, .bool ((bstr (b2s t13.1)).toList == (bstr (b2s t18.1)).toList)), (61, .slice ao14 t13.1.length cap14), (62, .slice ao11 t10.length cap11)] (by kernel_rfl) fun a ha => ?_
  refine bsl (vals := ([.slice ao14 t13.1.length cap14, .slice ao11 t10.length cap11] : List Value)) (T := 44) ha rfl (([.slice ao14 t13.1.length cap14] : List Value) ++ (([.slice ao11 t10.length cap11] : List Value) ++ ([] : List Value))) (fun w => by kernel_rfl) rfl rfl rfl fun a w26 g27 hN28 ha => ?_
  have hgr29 : ∀ x ∈ (blkL ao19 ++ (blkL ao14 ++ (blkL ao11 ++ (M)))), x ≠ g27 := fun x h e => absurd (hM x h) (Nat.not_lt.2 (by rw [e]; exact hN28.ge))
  have o1 : Ok [] (blkL ao19 ++ (blkL ao14 ++ (blkL ao11 ++ (M)))) w23.heap.size := Ok.nil _ _
  have o2 : Ok (blkL ao19 ++ (blkL ao14 ++ (blkL ao11 ++ (M)))) (blkL ao19 ++ (blkL ao14 ++ (blkL ao11 ++ (M)))) w23.heap.size := (Ok.refl _ _)
  have f14 := f14.chg hN28.chg o1 o2 (fun _ _ h => nomatch h) (fun _ h => mr (ml h))
  have f11 := f11.chg hN28.chg o1 o2 (fun _ _ h => nomatch h) (fun _ h => mr (mr (ml h)))
  have hM : MS (blkL ao19 ++ (blkL ao14 ++ (blkL ao11 ++ (M)))) w26 := (hM.chg hN28.chg)
  have hC := hC.trans hN28.chg (Ok.nil _ _)
  have hB29 : Box w26 g27 ([.slice ao14 t13.1.length cap14, .slice ao11 t10.length cap11] : List Value) := hN28.box
  refine cl ha (by rfl) (by kernel_rfl) (by rfl) (by rfl) (by rfl) (Owned.call w26 _ hM g27 [(ao14, t13.1.length, cap14), (ao11, t10.length, cap11)] (blkL ao14 ++ blkL ao11) (List.forall_mem_cons.2 ⟨f14.rowOk, (List.forall_mem_cons.2 ⟨f11.rowOk, (fun _ h => nomatch h)⟩)⟩) (List.Pairwise.cons (List.forall_mem_cons.2 ⟨(p_i14_i11), (fun _ h => nomatch h)⟩) (List.Pairwise.cons (fun _ h => nomatch h) List.Pairwise.nil)) (List.forall_mem_cons.2 ⟨(fun h => hgr29 _ (mr (ml h)) rfl), (List.forall_mem_cons.2 ⟨(fun h => hgr29 _ (mr (mr (ml h))) rfl), (fun _ h => nomatch h)⟩)⟩) hB29 (Nat.le_of_ble_eq_true rfl) (List.forall_mem_cons.2 ⟨(fun _ h => (List.mem_append_left _ h)), (List.forall_mem_cons.2 ⟨(fun _ h => (List.mem_append_right _ h)), (fun _ h => nomatch h)⟩)⟩)) ?_
  rintro _ w30 ⟨rfl, hc30, _⟩ a ha
  have hM : MS (blkL ao19 ++ (M)) w30 := (MS.app (fun x h => hM.chg hc30 x (ml h)) (fun x h => hM.chg hc30 x (mr (mr (mr (h))))))
  have hC := hC.trans hc30 (Ok.app (fun x h => .inr (e_i14 x h)) (fun x h => .inr (e_i11 x h)))
  refine seg ha 1 [(7, .bool t4), (10, .int .i64 t13.2), (11, .int .i64 t16.1), (12, .bool t16.2.1), (13, .int .i64 t16.2.2), (15, .int .i64 t18.2), (16, .int .i64 t21.1), (17, .bool t21.2.1), (18, .int .i64 t21.2.2), (19, .bool t23), (20, .bool ((bstr (b2s t13.1)).toList == (bstr (b2s t18.1)).toList)), (21, .bool true)] (by kernel_rfl) fun a ha => ?_
  refine hK25 _ _ ?_; try clear hK25 K25
  refine wp_seq_k fun K31 hK31 => ?_
  refine wp_region_lit ?_
  refine seg ha 31 [(6, .bool (if (if (if (if (if (if (if t4 = true then t23 else false) = true then ((bstr (b2s t13.1)).toList == (bstr (b2s t18.1)).toList) else false) = true then true else false) = true then (t13.2 == t18.2) else false) = true then (t16.1 == t21.1) else false) = true then (t16.2.1 == t21.2.1) else false) = true then (t16.2.2 == t21.2.2) else false))] (by kernel_rfl) fun a ha => ?_
  refine hK31 _ _ ?_; try clear hK31 K31
  refine wp_ret ?_
  try simp only [Exit.then, Exit.inBlock]
  have hM : MS (M) w30 := (fun x h => hM.chg (Chg.refl [] _) x (mr (h)))
  have hC := hC.trans (Chg.refl [] _) (Ok.nil _ _)
  obtain rfl := Option.some.inj H
  refine rt1 ha rfl rfl ?_
  exact ⟨rfl, hC, hM⟩
end Go.E
