/- What the functions that the law reaches compute, and the walks that show it. -/
import Derived.Test.YtcimnfdaakedcaaEngO
import Derived.Test.YtcimnfdaakedcaaEngX
import Derived.Test.YtcimnfdaakedcaaProg
set_option linter.unusedVariables false
set_option linter.unusedSimpArgs false
namespace Go.E
open Go.RowKit Go.Proofs
structure S_vinerylaw05_Act where
  Do : Int
  S : List UInt8
  N : Int
  deriving DecidableEq, Inhabited
def cS_vinerylaw05_Act (x : S_vinerylaw05_Act) : List Value := ([.int .i64 x.Do] : List Value) ++ (([.string (bstr x.S)] : List Value) ++ (([.int .i64 x.N] : List Value)))
def rS_vinerylaw05_Act : Rep S_vinerylaw05_Act := rIso (fun x : S_vinerylaw05_Act => (x.Do, (x.S, x.N))) (rPair (rInt .i64) (rPair rStr (rInt .i64)))
theorem rS_vinerylaw05_Act.open {w : World} {M : List Nat} {cs : List Value} {x : S_vinerylaw05_Act} (h : rS_vinerylaw05_Act.R w M cs x) : cs = cS_vinerylaw05_Act x := by
  obtain ⟨c0, k0, e0, h0, ⟨c1, k1, e1, h1, h2⟩⟩ := h
  obtain rfl := h0
  obtain rfl := h1
  obtain rfl := h2
  subst e1
  subst e0
  exact rfl
theorem rS_vinerylaw05_Act.mk {w : World} {M : List Nat} (x : S_vinerylaw05_Act) : rS_vinerylaw05_Act.R w M (cS_vinerylaw05_Act x) x := ⟨_, _, rfl, rfl, ⟨_, _, rfl, rfl, rfl⟩⟩
def okS_vinerylaw05_Act (x : S_vinerylaw05_Act) : Prop := (okI .i64) x.Do ∧ okS x.S ∧ (okI .i64) x.N

def bytes_Clone.f (a0 : List Int) : Option (List Int) := if a0.length ≤ 140737488355328 then some a0 else none
theorem bytes_Clone.walk (w : World) (M : List Nat) (hM : MS M w) (a0 : List Int) (ao1 : Option Addr) (cap1 : Nat) (f1 : RSl (rInt .u8) 5 w M ao1 cap1 a0) (r : List Int) (H : bytes_Clone.f a0 = some r) :
    To Try.prog 36 [.slice ao1 a0.length cap1] w fun v w' => ∃ (ao2 : Option Addr) (cap2 : Nat), v = .slice ao2 r.length cap2 ∧ (Own (rInt .u8) 5 w' (blkL ao2 ++ M) ao2 cap2 r) ∧ (∀ x ∈ blkL ao2, w.heap.size ≤ x) ∧ Chg [] w w' ∧ MS (blkL ao2 ++ M) w' := by
  unfold bytes_Clone.f at H
  obtain ⟨hb, H⟩ := ite_some H
  obtain rfl := Option.some.inj H
  refine ent Try.func36 rfl [(0, .slice ao1 a0.length cap1)] rfl rfl fun a ha => ?_
  refine wp_seq_k fun K hK => ?_
  refine wp_region_lit ?_
  refine seg ha 1 [(0, .slice ao1 a0.length cap1)] (by kernel_rfl) fun a ha => ?_
  refine hK _ _ ?_; clear hK K
  refine wp_seq_k fun K hK => ?_
  refine wp_seq_k fun K2 hK2 => ?_
  refine wp_region_lit ?_
  refine seg ha 2 [(0, .slice ao1 a0.length cap1), (4, .bool ao1.isNone)] (by kernel_rfl) fun a ha => ?_
  refine hK2 _ _ ?_; clear hK2 K2
  refine cnd ha rfl (fun hc => ?_) (fun hc => ?_)
  · refine wp_seq_k fun K2 hK2 => ?_
    refine wp_region_lit ?_
    refine seg ha 1 [(2, .slice none 0 0)] (by kernel_rfl) fun a ha => ?_
    refine hK2 _ _ ?_; clear hK2 K2
    refine wp_ret ?_
    have hx : a0 = [] := by
      rcases f1 with ⟨_, _, h | ⟨g, o, cur, fr, e, _⟩⟩
      · exact h
      · subst e; simp at hc
    simp only [Exit.then]
    refine rt1 ha rfl rfl ?_
    exact ⟨none, 0, by rw [hx]; rfl, by rw [hx]; exact Own.nil, (fun _ h => nomatch h), Chg.refl _ _, hM⟩
  · refine wp_skip ?_
    refine hK _ _ ?_; clear hK K
    refine wp_seq_k fun K hK => ?_
    refine wp_region_lit ?_
    refine bsl (vals := []) (T := 5) ha rfl [] (fun w => by kernel_rfl) rfl rfl rfl fun a w1 g hN ha => ?_
    refine seg ha 1 [(0, .slice ao1 a0.length cap1), (5, .slice (some ⟨g, 0, none⟩) 0 0), (6, .slice ao1 a0.length cap1)] (by kernel_rfl) fun a ha => ?_
    have hO : Own (rInt .u8) 5 w1 ([g] ++ M) (some ⟨g, 0, none⟩) 0 [] := hN.own rfl (Nat.zero_le _)
    have h1 : RSl (rInt .u8) 5 w1 ([g] ++ M) ao1 cap1 a0 := f1.chg hN.chg (Ok.nil _ _) (Ok.app (hN.ok _) (Ok.refl _ _))
    refine app (r := rInt .u8) (xs := []) ha (ElemT.mk' (bytes := 1) (by kernel_rfl)) rfl rfl rfl rfl rfl hO h1.src (by simpa using hb) (by decide) fun a w2 ao2 cap2 hO2 hc2 hok hlt ha => ?_
    refine seg ha 1 [(2, .slice ao2 ([] ++ a0).length cap2)] (by kernel_rfl) fun a ha => ?_
    refine hK _ _ ?_; clear hK K
    refine wp_ret ?_
    refine rt1 ha rfl rfl ⟨ao2, cap2, rfl, ?_, ?_, ?_, ?_⟩
    · exact hO2.chg (Chg.refl [] _) (Ok.nil _ _) (Ok.app (fun g hg => .inl (ml hg)) (fun g hg => .inl (mr (mr hg)))) (fun _ _ hh => nomatch hh) (fun g hg => ml hg)
    · intro x hx
      rcases hok x hx with h | h
      · simp [blkL] at h; subst h; exact hN.ge
      · exact Nat.le_trans hN.chg.size h
    · exact hN.chg.trans hc2 (Ok.one (.inr hN.ge))
    · exact MS.app hlt ((hM.chg hN.chg).chg hc2)

def cursor_Put.l0 (a1 : Int) : Nat → (List Int) → Int → Option (List Int)
  | 0, _, _ => none
  | kk + 1, x20, x21 => (if (decide (x21 ≥ (0 : Int))) = true then (if 0 ≤ x21 then (if (x20.length + ([IntKind.u8.wrap (Int.fdiv a1 (2 ^ (min (Int.toNat x21) IntKind.i64.bits)))] : List Int).length) * 1 ≤ 140737488355328 then cursor_Put.l0 a1 kk (x20 ++ ([IntKind.u8.wrap (Int.fdiv a1 (2 ^ (min (Int.toNat x21) IntKind.i64.bits)))] : List Int)) (IntKind.i64.wrap (x21 - (8 : Int))) else none) else none) else some (x20 : List Int))
def cursor_Put.f (k : Nat) (a0 : List Int) (a1 : Int) (a2 : Int) : Option (List Int × Int) := (if (if (decide (a2 < (1 : Int))) = true then true else (decide (a2 > (4 : Int)))) = true then some ((([] : List Int) : List Int), ((1 : Int) : Int)) else ((if (decide (a1 < (0 : Int))) = true then some (true : Bool) else (if 0 ≤ (IntKind.i64.wrap ((8 : Int) * a2)) then some ((Int.fdiv a1 (2 ^ (min (Int.toNat (IntKind.i64.wrap ((8 : Int) * a2))) IntKind.i64.bits))) != (0 : Int) : Bool) else none))).bind fun s9 => (if s9 = true then some ((([] : List Int) : List Int), ((5 : Int) : Int)) else (bytes_Clone.f a0).bind fun t14 => (cursor_Put.l0 a1 k t14 (IntKind.i64.wrap ((8 : Int) * (IntKind.i64.wrap (a2 - (1 : Int)))))).bind fun s18 => some ((s18 : List Int), ((0 : Int) : Int))))
set_option maxRecDepth 100000 in
theorem cursor_Put.walk (w : World) (M : List Nat) (hM : MS M w) (a0 : List Int) (ao1 : Option Addr) (cap1 : Nat) (f1 : RSl (rInt .u8) 5 w M ao1 cap1 a0) (a1 : Int) (a2 : Int) (k : Nat) (r : List Int × Int) (H : cursor_Put.f k a0 a1 a2 = some r) :
    To Try.prog 31 [.slice ao1 a0.length cap1, .int .i64 a1, .int .i64 a2] w fun v w' => ∃ (ao39 : Option Addr) (cap39 : Nat), v = .tuple #[.slice ao39 r.1.length cap39, .int .i64 r.2] ∧ (Own (rInt .u8) 5 w' (blkL ao39 ++ (M)) ao39 cap39 r.1) ∧ (∀ x ∈ blkL ao39, w.heap.size ≤ x) ∧ Chg [] w w' ∧ MS (blkL ao39 ++ (M)) w' := by
 unfold cursor_Put.f at H
 refine ent Try.func31 rfl [(0, .slice ao1 a0.length cap1), (1, .int .i64 a1), (2, .int .i64 a2)] rfl (by rfl) fun a ha => ?_
 have hC : Chg [] w w := Chg.refl _ _
 refine wp_seq_k fun K2 hK2 => ?_
 refine wp_region_lit ?_
 refine seg ha 2 [(0, .slice ao1 a0.length cap1), (1, .int .i64 a1), (2, .int .i64 a2)] (by kernel_rfl) fun a ha => ?_
 refine hK2 _ _ ?_; try clear hK2 K2
 refine wp_seq_k fun K3 hK3 => ?_
 refine wp_block ?_
 refine wp_seq_k fun K4 hK4 => ?_
 refine wp_region_lit ?_
 refine seg ha 7 [(0, .slice ao1 a0.length cap1), (1, .int .i64 a1), (2, .int .i64 a2), (10, .bool (if (decide (a2 < (1 : Int))) = true then true else (decide (a2 > (4 : Int)))))] (by kernel_rfl) fun a ha => ?_
 refine hK4 _ _ ?_; try clear hK4 K4
 refine cnd ha rfl (fun hc5 => ?_) (fun hc5 => ?_)
 ·have H := ite_t hc5 H
  refine wp_seq_k fun K6 hK6 => ?_
  refine wp_region_lit ?_
  refine seg ha 2 [(6, .slice none 0 0), (7, .int .i64 (1 : Int))] (by kernel_rfl) fun a ha => ?_
  refine hK6 _ _ ?_; try clear hK6 K6
  refine wp_ret ?_
  try simp only [Exit.then, Exit.inBlock]
  have p_z7_M : ∀ x ∈ blkL none, x ∉ M := fun x hx hy => absurd (hM x (hy)) (Nat.not_lt.2 ((fun _ h => nomatch h) x hx))
  have e_z7 : ∀ x ∈ blkL none, w.heap.size ≤ x := fun x hx => Nat.le_trans hC.size ((fun _ h => nomatch h) x hx)
  have hM : MS (blkL none ++ (M)) w := (MS.app (fun _ h => nomatch h) (hM.chg (Chg.refl [] _)))
  have hC := hC.trans (Chg.refl [] _) (Ok.nil _ _)
  obtain rfl := Option.some.inj H
  refine rt2 ha rfl rfl rfl ?_
  exact ⟨none, 0, rfl, Own.nil, e_z7, hC, hM⟩
 ·have H := ite_f hc5 H
  refine wp_seq_k fun K8 hK8 => ?_
  refine wp_region_lit ?_
  obtain ⟨s9, H9, H⟩ := bind_some H
  have J9 : ∀ (a : Act) (w9 : World), Has a Try.f31.ntmps [(0, .slice ao1 a0.length cap1), (1, .int .i64 a1), (2, .int .i64 a2), (17, .bool s9)] → (RSl (rInt .u8) 5 w9 (M) ao1 cap1 a0) → (Chg [] w w9) → (MS (M) w9) → K8 a w9 := by
   intro a w9 ha f1 hC hM
   refine hK8 _ _ ?_; try clear hK8 K8
   refine cnd ha rfl (fun hc10 => ?_) (fun hc10 => ?_)
   ·have H := ite_t hc10 H
    refine wp_seq_k fun K11 hK11 => ?_
    refine wp_region_lit ?_
    refine seg ha 2 [(6, .slice none 0 0), (7, .int .i64 (5 : Int))] (by kernel_rfl) fun a ha => ?_
    refine hK11 _ _ ?_; try clear hK11 K11
    refine wp_ret ?_
    try simp only [Exit.then, Exit.inBlock]
    have p_z12_M : ∀ x ∈ blkL none, x ∉ M := fun x hx hy => absurd (hM x (hy)) (Nat.not_lt.2 ((fun _ h => nomatch h) x hx))
    have e_z12 : ∀ x ∈ blkL none, w.heap.size ≤ x := fun x hx => Nat.le_trans hC.size ((fun _ h => nomatch h) x hx)
    have hM : MS (blkL none ++ (M)) w9 := (MS.app (fun _ h => nomatch h) (hM.chg (Chg.refl [] _)))
    have hC := hC.trans (Chg.refl [] _) (Ok.nil _ _)
    obtain rfl := Option.some.inj H
    refine rt2 ha rfl rfl rfl ?_
    exact ⟨none, 0, rfl, Own.nil, e_z12, hC, hM⟩
   ·have H := ite_f hc10 H
    refine wp_skip ?_
    refine hK3 _ _ ?_; try clear hK3 K3
    refine wp_seq_k fun K13 hK13 => ?_
    refine wp_region_lit ?_
    refine seg ha 1 [(1, .int .i64 a1), (2, .int .i64 a2), (27, .slice ao1 a0.length cap1)] (by kernel_rfl) fun a ha => ?_
    obtain ⟨t14, H14, H⟩ := bind_some H
    refine cl ha (by rfl) (by kernel_rfl) (by rfl) (by rfl) (by rfl) (bytes_Clone.walk w9 _ hM a0 ao1 cap1 f1 _ H14) ?_
    rintro _ w14 ⟨ao15, cap15, rfl, f15, ne_i15, hc14, hMn⟩ a ha
    have o1 : Ok [] (M) w9.heap.size := Ok.nil _ _
    have o2 : Ok (blkL ao15 ++ (M)) (M) w9.heap.size := (Ok.app (fun x h => .inr (ne_i15 x h)) (Ok.refl _ _))
    have f1 := f1.chg hc14 o1 o2
    have p_i15_M : ∀ x ∈ blkL ao15, x ∉ M := fun x hx hy => absurd (hM x (hy)) (Nat.not_lt.2 (ne_i15 x hx))
    have e_i15 : ∀ x ∈ blkL ao15, w.heap.size ≤ x := fun x hx => Nat.le_trans hC.size (ne_i15 x hx)
    have hM : MS (blkL ao15 ++ (M)) w14 := (MS.app (fun x h => hMn x (ml h)) (hM.chg hc14))
    have hC := hC.trans hc14 (Ok.nil _ _)
    refine seg ha 1 [(1, .int .i64 a1), (2, .int .i64 a2), (8, .slice ao15 t14.length cap15)] (by kernel_rfl) fun a ha => ?_
    refine hK13 _ _ ?_; try clear hK13 K13
    refine wp_seq_k fun K16 hK16 => ?_
    refine wp_seq_k fun K17 hK17 => ?_
    refine wp_region_lit ?_
    refine seg ha 4 [(1, .int .i64 a1), (8, .slice ao15 t14.length cap15), (9, .int .i64 (IntKind.i64.wrap ((8 : Int) * (IntKind.i64.wrap (a2 - (1 : Int))))))] (by kernel_rfl) fun a ha => ?_
    refine hK17 _ _ ?_; try clear hK17 K17
    refine wp_block ?_
    obtain ⟨s18, H18, H⟩ := bind_some H
    have J18 : ∀ (a : Act) (wx18 : World) (ao22 : Option Addr) (cap22 : Nat), Has a Try.f31.ntmps [(8, .slice ao22 s18.length cap22)] → (Own (rInt .u8) 5 wx18 (blkL ao22 ++ (M)) ao22 cap22 s18) → (∀ x ∈ blkL ao22, w.heap.size ≤ x) → (∀ x ∈ blkL ao22, x ∉ M) → (Chg [] w wx18) → (MS (blkL ao22 ++ (M)) wx18) → K16 a wx18 := by
     intro a wx18 ao22 cap22 ha f22 e_i22 p_i22_M hC hM
     refine hK16 _ _ ?_; try clear hK16 K16
     refine wp_seq_k fun K23 hK23 => ?_
     refine wp_region_lit ?_
     refine seg ha 3 [(6, .slice ao22 s18.length cap22), (7, .int .i64 (0 : Int))] (by kernel_rfl) fun a ha => ?_
     refine hK23 _ _ ?_; try clear hK23 K23
     refine wp_ret ?_
     try simp only [Exit.then, Exit.inBlock]
     obtain rfl := Option.some.inj H
     refine rt2 ha rfl rfl rfl ?_
     exact ⟨ao22, cap22, rfl, f22, e_i22, hC, hM⟩
    have Hc18 := H
    have H := H18
    refine wp_loop_ghost (fun kk a w18 => ∃ (x20 : List Int) (x21 : Int) (ao19 : Option Addr) (cap19 : Nat), cursor_Put.l0 a1 kk x20 x21 = some s18 ∧ Has a Try.f31.ntmps [(1, .int .i64 a1), (8, .slice ao19 x20.length cap19), (9, .int .i64 x21)] ∧ (Own (rInt .u8) 5 w18 (blkL ao19 ++ (M)) ao19 cap19 x20) ∧ (∀ x ∈ blkL ao19, w.heap.size ≤ x) ∧ (∀ x ∈ blkL ao19, x ∉ M) ∧ (Chg [] w w18) ∧ (MS (blkL ao19 ++ (M)) w18)) k ?_ ?_
    ·skip
     exact ⟨t14, IntKind.i64.wrap ((8 : Int) * (IntKind.i64.wrap (a2 - (1 : Int)))), ao15, cap15, H, (ha.sel (by kernel_rfl)), f15, e_i15, p_i15_M, hC, hM⟩
    ·rintro kk a w18 ⟨x20, x21, ao19, cap19, H, ha, f19, e_i19, p_i19_M, hC, hM⟩
     obtain _ | kk := kk
     ·exact nomatch (show none = some _ from H)
     rw [cursor_Put.l0] at H
     refine wp_seq_k fun K24 hK24 => ?_
     refine wp_seq_k fun K25 hK25 => ?_
     refine wp_region_lit ?_
     refine seg ha 2 [(1, .int .i64 a1), (8, .slice ao19 x20.length cap19), (9, .int .i64 x21), (33, .bool (decide (x21 ≥ (0 : Int))))] (by kernel_rfl) fun a ha => ?_
     refine hK25 _ _ ?_; try clear hK25 K25
     refine cnd ha rfl (fun hc26 => ?_) (fun hc26 => ?_)
     ·have H := ite_t hc26 H
      refine wp_skip ?_
      refine hK24 _ _ ?_; try clear hK24 K24
      refine wp_seq_k fun K27 hK27 => ?_
      refine wp_block ?_
      refine wp_region_lit ?_
      refine seg ha 3 [(1, .int .i64 a1), (9, .int .i64 x21), (36, .slice ao19 x20.length cap19), (37, .int .i64 a1), (38, .int .i64 x21)] (by kernel_rfl) fun a ha => ?_
      obtain ⟨hx28, H⟩ := ite_some H
      refine hop (v := .int .i64 (Int.fdiv a1 (2 ^ (min (Int.toNat x21) IntKind.i64.bits)))) (w' := w18) ha rfl rfl rfl (shr_run ha (by rfl) (by rfl) hx28 _) fun a ha => ?_
      refine seg ha 1 [(1, .int .i64 a1), (9, .int .i64 x21), (36, .slice ao19 x20.length cap19), (40, .int .u8 (IntKind.u8.wrap (Int.fdiv a1 (2 ^ (min (Int.toNat x21) IntKind.i64.bits)))))] (by kernel_rfl) fun a ha => ?_
      refine bsl (vals := ([.int .u8 (IntKind.u8.wrap (Int.fdiv a1 (2 ^ (min (Int.toNat x21) IntKind.i64.bits))))] : List Value)) (T := 5) ha rfl (([.int .u8 (IntKind.u8.wrap (Int.fdiv a1 (2 ^ (min (Int.toNat x21) IntKind.i64.bits))))] : List Value) ++ ([] : List Value)) (fun w => by kernel_rfl) rfl rfl rfl fun a w29 g30 hN31 ha => ?_
      have o1 : Ok [] (blkL ao19 ++ (M)) w18.heap.size := Ok.nil _ _
      have o2 : Ok ([g30] ++ (blkL ao19 ++ (M))) (blkL ao19 ++ (M)) w18.heap.size := (Ok.app (hN31.ok _) (Ok.refl _ _))
      have f19 := f19.chg hN31.chg o1 o2 (fun _ _ h => nomatch h) (fun _ h => mr (ml h))
      have p_i32_i19 : ∀ x ∈ [g30], x ∉ (blkL ao19) := fun x hx hy => absurd (hM x (ml hy)) (Nat.not_lt.2 ((hN31.ge1) x hx))
      have p_i32_M : ∀ x ∈ [g30], x ∉ M := fun x hx hy => absurd (hM x (mr (hy))) (Nat.not_lt.2 ((hN31.ge1) x hx))
      have e_i32 : ∀ x ∈ [g30], w.heap.size ≤ x := fun x hx => Nat.le_trans hC.size ((hN31.ge1) x hx)
      have hM : MS ([g30] ++ (blkL ao19 ++ (M))) w29 := (MS.app hN31.ms (hM.chg hN31.chg))
      have hC := hC.trans hN31.chg (Ok.nil _ _)
      have f33 : Own (rInt .u8) 5 w29 ([g30] ++ (blkL ao19 ++ (M))) (some ⟨g30, 0, none⟩) 1 ([IntKind.u8.wrap (Int.fdiv a1 (2 ^ (min (Int.toNat x21) IntKind.i64.bits)))] : List Int) := hN31.own ⟨([.int .u8 (IntKind.u8.wrap (Int.fdiv a1 (2 ^ (min (Int.toNat x21) IntKind.i64.bits))))] : List Value), _, rfl, rfl, rfl⟩ (Nat.le_of_ble_eq_true rfl)
      obtain ⟨hx34, H⟩ := ite_some H
      refine app (r := (rInt .u8)) (xs := x20) (ys := ([IntKind.u8.wrap (Int.fdiv a1 (2 ^ (min (Int.toNat x21) IntKind.i64.bits)))] : List Int)) ha (ElemT.mk' (bytes := 1) (by kernel_rfl)) rfl rfl rfl rfl rfl f19 f33.src hx34 (by decide) fun a w35 ao36 cap36 hO36 hc36 hk36 hl36 ha => ?_
      have o1 : Ok (blkL ao19) ([g30] ++ (blkL ao19 ++ (M))) w29.heap.size := (fun _ h => .inl (mr (ml h)))
      have o2 : Ok (blkL ao36 ++ ([g30] ++ (M))) ([g30] ++ (blkL ao19 ++ (M))) w29.heap.size := (Ok.app (Ok.to hk36 (fun _ h => mr (ml h))) (Ok.app (fun _ h => .inl (ml h)) (fun _ h => .inl (mr (mr (h))))))
      have f33 := f33.chg hc36 o1 o2 p_i32_i19 (fun _ h => mr (ml h))
      have p_i36_i32 : ∀ x ∈ blkL ao36, x ∉ ([g30]) := fun x hx hy => (hk36 x hx).elim (fun h => (fun x hx hy => p_i32_i19 x hy hx) x h hy) (fun h => absurd (hM x (ml hy)) (Nat.not_lt.2 h))
      have p_i36_M : ∀ x ∈ blkL ao36, x ∉ M := fun x hx hy => (hk36 x hx).elim (fun h => p_i19_M x h hy) (fun h => absurd (hM x (mr (mr (hy)))) (Nat.not_lt.2 h))
      have e_i36 : ∀ x ∈ blkL ao36, w.heap.size ≤ x := fun x hx => (hk36 x hx).elim (e_i19 x) (Nat.le_trans hC.size)
      have hM : MS (blkL ao36 ++ ([g30] ++ (M))) w35 := (MS.app hl36 (MS.app (fun x h => hM.chg hc36 x (ml h)) (fun x h => hM.chg hc36 x (mr (mr (h))))))
      have hC := hC.trans hc36 (fun x h => .inr (e_i19 x h))
      have f36 := hO36.chg (M' := blkL ao36 ++ ([g30] ++ (M))) (Chg.refl [] _) (Ok.nil _ _) (Ok.app (fun _ h => .inl (ml h)) (Ok.to (Ok.app (fun _ h => .inl (ml h)) (fun _ h => .inl (mr (mr (h))))) (fun _ h => mr h))) (fun _ _ h => nomatch h) (fun _ h => ml h)
      refine seg ha 1 [(1, .int .i64 a1), (8, .slice ao36 (x20 ++ ([IntKind.u8.wrap (Int.fdiv a1 (2 ^ (min (Int.toNat x21) IntKind.i64.bits)))] : List Int)).length cap36), (9, .int .i64 x21)] (by kernel_rfl) fun a ha => ?_
      refine hK27 _ _ ?_; try clear hK27 K27
      refine wp_region_lit ?_
      refine seg ha 3 [(1, .int .i64 a1), (8, .slice ao36 (x20 ++ ([IntKind.u8.wrap (Int.fdiv a1 (2 ^ (min (Int.toNat x21) IntKind.i64.bits)))] : List Int)).length cap36), (9, .int .i64 (IntKind.i64.wrap (x21 - (8 : Int))))] (by kernel_rfl) fun a ha => ?_
      have o1 : Ok [] (blkL ao36 ++ ([g30] ++ (M))) w35.heap.size := Ok.nil _ _
      have o2 : Ok (blkL ao36 ++ (M)) (blkL ao36 ++ ([g30] ++ (M))) w35.heap.size := (Ok.app (fun _ h => .inl (ml h)) (fun _ h => .inl (mr (mr (h)))))
      have f36 := f36.chg (Chg.refl [] _) o1 o2 (fun _ _ h => nomatch h) (fun _ h => ml h)
      have hM : MS (blkL ao36 ++ (M)) w35 := (MS.app (fun x h => hM.chg (Chg.refl [] _) x (ml h)) (fun x h => hM.chg (Chg.refl [] _) x (mr (mr (h)))))
      have hC := hC.trans (Chg.refl [] _) (Ok.nil _ _)
      exact ⟨kk, Nat.lt_succ_self _, ⟨(x20 ++ ([IntKind.u8.wrap (Int.fdiv a1 (2 ^ (min (Int.toNat x21) IntKind.i64.bits)))] : List Int)), IntKind.i64.wrap (x21 - (8 : Int)), ao36, cap36, H, (ha.sel (by kernel_rfl)), f36, e_i36, p_i36_M, hC, hM⟩⟩
     ·have H := ite_f hc26 H
      refine wp_exit ?_
      simp only [Exit.then, Exit.inBlock, ↓reduceIte, Nat.reduceEqDiff]
      obtain rfl := Option.some.inj H
      exact J18 _ _ ao19 cap19 (ha.sel (by kernel_rfl)) f19 e_i19 p_i19_M hC hM
  have H := H9
  refine seg ha 3 [(20, .bool (decide (a1 < (0 : Int)))), (0, .slice ao1 a0.length cap1), (1, .int .i64 a1), (2, .int .i64 a2)] (by kernel_rfl) fun a ha => ?_
  rcases Bool.eq_false_or_eq_true (decide (a1 < (0 : Int))) with hb37 | hb37
  ·have ha := ha.lit hb37
   have H := ite_t hb37 H
   refine sgh ha 7 [1, 1, 1, 1, 1, 3, 0] [(0, .slice ao1 a0.length cap1), (1, .int .i64 a1), (2, .int .i64 a2), (17, .bool true)] (by kernel_rfl) fun a ha => ?_
   obtain rfl := Option.some.inj H
   exact J9 _ _ (ha.sel (by kernel_rfl)) f1 hC hM
  ·have ha := ha.lit hb37
   have H := ite_f hb37 H
   refine sgh ha 3 [2, 2, 2] [(0, .slice ao1 a0.length cap1), (1, .int .i64 a1), (2, .int .i64 a2), (20, .bool false), (21, .int .i64 a1), (23, .int .i64 (IntKind.i64.wrap ((8 : Int) * a2)))] (by kernel_rfl) fun a ha => ?_
   obtain ⟨hx38, H⟩ := ite_some H
   refine hop (v := .int .i64 (Int.fdiv a1 (2 ^ (min (Int.toNat (IntKind.i64.wrap ((8 : Int) * a2))) IntKind.i64.bits)))) (w' := w) ha rfl rfl rfl (shr_run ha (by rfl) (by rfl) hx38 _) fun a ha => ?_
   refine sgh ha 3 [2, 4, 0] [(0, .slice ao1 a0.length cap1), (1, .int .i64 a1), (2, .int .i64 a2), (17, .bool ((Int.fdiv a1 (2 ^ (min (Int.toNat (IntKind.i64.wrap ((8 : Int) * a2))) IntKind.i64.bits))) != (0 : Int)))] (by kernel_rfl) fun a ha => ?_
   obtain rfl := Option.some.inj H
   exact J9 _ _ (ha.sel (by kernel_rfl)) f1 hC hM
def label_Bytes.f (k : Nat) (a0 : Int) (a1 : Bool) : Option (List Int × Int) := (if (if (decide (a0 < (0 : Int))) = true then true else (decide (a0 > (1048575 : Int)))) = true then some ((([] : List Int) : List Int), ((5 : Int) : Int)) else ((if a1 = true then some (IntKind.i64.wrap (BitVec.ofInt IntKind.i64.bits (IntKind.i64.wrap (a0 * 2 ^ (min (4 : Int).toNat IntKind.i64.bits))) ||| BitVec.ofInt IntKind.i64.bits (1 : Int)).toNat : Int) else some (IntKind.i64.wrap (a0 * 2 ^ (min (4 : Int).toNat IntKind.i64.bits)) : Int))).bind fun s9 => (cursor_Put.f k ([] : List Int) s9 (3 : Int)).bind fun t11 => some ((t11.1 : List Int), (t11.2 : Int)))
set_option maxRecDepth 100000 in
theorem label_Bytes.walk (w : World) (M : List Nat) (hM : MS M w) (a0 : Int) (a1 : Bool) (k : Nat) (r : List Int × Int) (H : label_Bytes.f k a0 a1 = some r) :
    To Try.prog 24 [.int .i64 a0, .bool a1] w fun v w' => ∃ (ao15 : Option Addr) (cap15 : Nat), v = .tuple #[.slice ao15 r.1.length cap15, .int .i64 r.2] ∧ (Own (rInt .u8) 5 w' (blkL ao15 ++ (M)) ao15 cap15 r.1) ∧ (∀ x ∈ blkL ao15, w.heap.size ≤ x) ∧ Chg [] w w' ∧ MS (blkL ao15 ++ (M)) w' := by
 unfold label_Bytes.f at H
 refine ent Try.func24 rfl [(0, .int .i64 a0), (1, .bool a1)] rfl (by rfl) fun a ha => ?_
 have hC : Chg [] w w := Chg.refl _ _
 refine wp_seq_k fun K1 hK1 => ?_
 refine wp_region_lit ?_
 refine seg ha 2 [(0, .int .i64 a0), (1, .bool a1)] (by kernel_rfl) fun a ha => ?_
 refine hK1 _ _ ?_; try clear hK1 K1
 refine wp_seq_k fun K2 hK2 => ?_
 refine wp_seq_k fun K3 hK3 => ?_
 refine wp_region_lit ?_
 refine seg ha 6 [(0, .int .i64 a0), (1, .bool a1), (12, .bool (if (decide (a0 < (0 : Int))) = true then true else (decide (a0 > (1048575 : Int)))))] (by kernel_rfl) fun a ha => ?_
 refine hK3 _ _ ?_; try clear hK3 K3
 refine cnd ha rfl (fun hc4 => ?_) (fun hc4 => ?_)
 ·have H := ite_t hc4 H
  refine wp_seq_k fun K5 hK5 => ?_
  refine wp_region_lit ?_
  refine seg ha 2 [(4, .slice none 0 0), (5, .int .i64 (5 : Int))] (by kernel_rfl) fun a ha => ?_
  refine hK5 _ _ ?_; try clear hK5 K5
  refine wp_ret ?_
  try simp only [Exit.then, Exit.inBlock]
  have p_z6_M : ∀ x ∈ blkL none, x ∉ M := fun x hx hy => absurd (hM x (hy)) (Nat.not_lt.2 ((fun _ h => nomatch h) x hx))
  have e_z6 : ∀ x ∈ blkL none, w.heap.size ≤ x := fun x hx => Nat.le_trans hC.size ((fun _ h => nomatch h) x hx)
  have hM : MS (blkL none ++ (M)) w := (MS.app (fun _ h => nomatch h) (hM.chg (Chg.refl [] _)))
  have hC := hC.trans (Chg.refl [] _) (Ok.nil _ _)
  obtain rfl := Option.some.inj H
  refine rt2 ha rfl rfl rfl ?_
  exact ⟨none, 0, rfl, Own.nil, e_z6, hC, hM⟩
 ·have H := ite_f hc4 H
  refine wp_skip ?_
  refine hK2 _ _ ?_; try clear hK2 K2
  refine wp_seq_k fun K7 hK7 => ?_
  refine wp_region_lit ?_
  refine seg ha 3 [(1, .bool a1), (6, .int .i64 (IntKind.i64.wrap (a0 * 2 ^ (min (4 : Int).toNat IntKind.i64.bits))))] (by kernel_rfl) fun a ha => ?_
  refine hK7 _ _ ?_; try clear hK7 K7
  refine wp_seq_k fun K8 hK8 => ?_
  obtain ⟨s9, H9, H⟩ := bind_some H
  have J9 : ∀ (a : Act) (w9 : World), Has a Try.f24.ntmps [(6, .int .i64 s9)] → (Chg [] w w9) → (MS (M) w9) → K8 a w9 := by
   intro a w9 ha hC hM
   refine hK8 _ _ ?_; try clear hK8 K8
   refine wp_seq_k fun K10 hK10 => ?_
   refine wp_region_lit ?_
   refine seg ha 1 [(18, .int .i64 s9)] (by kernel_rfl) fun a ha => ?_
   obtain ⟨t11, H11, H⟩ := bind_some H
   refine cl ha (by rfl) (by kernel_rfl) (by rfl) (by rfl) (by rfl) (cursor_Put.walk w9 _ hM ([] : List Int) none 0 (RSl.nil (Nat.zero_le _)) s9 (3 : Int) k _ H11) ?_
   rintro _ w11 ⟨ao12, cap12, rfl, f12, ne_i12, hc11, hMn⟩ a ha
   have p_i12_M : ∀ x ∈ blkL ao12, x ∉ M := fun x hx hy => absurd (hM x (hy)) (Nat.not_lt.2 (ne_i12 x hx))
   have e_i12 : ∀ x ∈ blkL ao12, w.heap.size ≤ x := fun x hx => Nat.le_trans hC.size (ne_i12 x hx)
   have hM : MS (blkL ao12 ++ (M)) w11 := (MS.app (fun x h => hMn x (ml h)) (hM.chg hc11))
   have hC := hC.trans hc11 (Ok.nil _ _)
   refine seg ha 4 [(4, .slice ao12 t11.1.length cap12), (5, .int .i64 t11.2)] (by kernel_rfl) fun a ha => ?_
   refine hK10 _ _ ?_; try clear hK10 K10
   refine wp_ret ?_
   try simp only [Exit.then, Exit.inBlock]
   obtain rfl := Option.some.inj H
   refine rt2 ha rfl rfl rfl ?_
   exact ⟨ao12, cap12, rfl, f12, e_i12, hC, hM⟩
  have H := H9
  refine wp_seq_k fun K13 hK13 => ?_
  refine wp_region_lit ?_
  refine seg ha 1 [(6, .int .i64 (IntKind.i64.wrap (a0 * 2 ^ (min (4 : Int).toNat IntKind.i64.bits)))), (15, .bool a1)] (by kernel_rfl) fun a ha => ?_
  refine hK13 _ _ ?_; try clear hK13 K13
  refine cnd ha rfl (fun hc14 => ?_) (fun hc14 => ?_)
  ·have H := ite_t hc14 H
   refine wp_region_lit ?_
   refine seg ha 3 [(6, .int .i64 (IntKind.i64.wrap (BitVec.ofInt IntKind.i64.bits (IntKind.i64.wrap (a0 * 2 ^ (min (4 : Int).toNat IntKind.i64.bits))) ||| BitVec.ofInt IntKind.i64.bits (1 : Int)).toNat))] (by kernel_rfl) fun a ha => ?_
   obtain rfl := Option.some.inj H
   exact J9 _ _ (ha.sel (by kernel_rfl)) hC hM
  ·have H := ite_f hc14 H
   refine wp_skip ?_
   obtain rfl := Option.some.inj H
   exact J9 _ _ (ha.sel (by kernel_rfl)) hC hM
structure PoolS where
  first : Int
  count : Int
  labels : List (List UInt8 × Int)
  owners : List (Int × List UInt8)
def PoolAt (w : World) (g : Nat) (L : List Nat) (x : PoolS) : Prop :=
  ∃ g1 g2, L = [g, g1, g2] ∧ g ≠ g1 ∧ g ≠ g2 ∧ g1 ≠ g2 ∧ Box w g [.int .i64 x.first, .int .i64 x.count, .map (some g1), .map (some g2)] ∧ MapR kS (kI .i64) w g1 x.labels ∧ MapR (kI .i64) kS w g2 x.owners
theorem PoolAt.chg {w w' : World} {g : Nat} {L gs : List Nat} {x : PoolS} (h : PoolAt w g L x) (hc : Chg gs w w') (hn : ∀ y ∈ L, y ∉ gs) : PoolAt w' g L x := by
  obtain ⟨g1, g2, rfl, n1, n2, n3, hB, h1, h2⟩ := h
  exact ⟨g1, g2, rfl, n1, n2, n3, hB.chg hc (hn g (by simp)), h1.chg hc (hn g1 (by simp)), h2.chg hc (hn g2 (by simp))⟩
theorem u54 : Try.prog.underlying 54 = some (.map 9 3) := by kernel_rfl
theorem u55 : Try.prog.underlying 55 = some (.map 3 9) := by kernel_rfl
theorem K9 : MKey Try.prog 9 kS := mkey_str (by kernel_rfl)
theorem K3 : MKey Try.prog 3 (kI .i64) := mkey_int (by kernel_rfl)
def Pool_Count.f (x : PoolS) : Option Int := some (x.labels.length : Int)
theorem Pool_Count.walk (w : World) (M : List Nat) (hM : MS M w) (g : Nat) (L : List Nat) (x : PoolS) (f : PoolAt w g L x) (hL : ∀ y ∈ L, y ∈ M) (r : Int) (H : Pool_Count.f x = some r) :
    To Try.prog 11 [.pointer (some ⟨g, 0, none⟩)] w fun v w' => v = .int .i64 r ∧ Chg [] w w' ∧ MS M w' := by
  unfold Pool_Count.f at H
  obtain rfl := Option.some.inj H
  obtain ⟨g1, g2, rfl, n1, n2, n3, hB, h1, h2⟩ := f
  refine ent Try.func11 rfl [(0, .pointer (some ⟨g, 0, none⟩))] rfl (by rfl) fun a ha => ?_
  refine wp_seq_k fun K hK => ?_
  refine wp_region_lit ?_
  refine seg ha 1 [(0, .pointer (some ⟨g, 0, none⟩))] (by kernel_rfl) fun a ha => ?_
  refine hK _ _ ?_; clear hK K
  refine wp_seq_k fun K hK => ?_
  refine wp_region_lit ?_
  refine seg ha 3 [(5, .pointer (some ⟨g, 2, none⟩))] (by kernel_rfl) fun a ha => ?_
  refine ld (v := .map (some g1)) ha rfl (by kernel_rfl) rfl rfl rfl (hB.cell' (o := 2) rfl rfl) fun a ha => ?_
  refine mln ha u54 rfl rfl rfl rfl h1 fun a ha => ?_
  refine seg ha 1 [(2, .int .i64 (x.labels.length : Int))] (by kernel_rfl) fun a ha => ?_
  refine hK _ _ ?_; clear hK K
  refine wp_ret ?_
  exact rt1 ha rfl rfl ⟨rfl, Chg.refl _ _, hM⟩
def Pool_Of.f (x : PoolS) (o : List UInt8) : Option (Int × Bool) := some ((mget x.labels o).getD 0, (mget x.labels o).isSome)
theorem Pool_Of.walk (w : World) (M : List Nat) (hM : MS M w) (g : Nat) (L : List Nat) (x : PoolS) (f : PoolAt w g L x) (hL : ∀ y ∈ L, y ∈ M) (o : List UInt8) (r : Int × Bool) (H : Pool_Of.f x o = some r) :
    To Try.prog 17 [.pointer (some ⟨g, 0, none⟩), .string (bstr o)] w fun v w' => v = .tuple #[.int .i64 r.1, .bool r.2] ∧ Chg [] w w' ∧ MS M w' := by
  unfold Pool_Of.f at H
  obtain rfl := Option.some.inj H
  obtain ⟨g1, g2, rfl, n1, n2, n3, hB, h1, h2⟩ := f
  refine ent Try.func17 rfl [(0, .pointer (some ⟨g, 0, none⟩)), (1, .string (bstr o))] rfl (by rfl) fun a ha => ?_
  refine wp_seq_k fun K hK => ?_
  refine wp_region_lit ?_
  refine seg ha 2 [(0, .pointer (some ⟨g, 0, none⟩)), (1, .string (bstr o))] (by kernel_rfl) fun a ha => ?_
  refine hK _ _ ?_; clear hK K
  refine wp_seq_k fun K hK => ?_
  refine wp_region_lit ?_
  refine seg ha 3 [(1, .string (bstr o)), (11, .pointer (some ⟨g, 2, none⟩))] (by kernel_rfl) fun a ha => ?_
  refine ld (v := .map (some g1)) ha rfl (by kernel_rfl) rfl rfl rfl (hB.cell' (o := 2) rfl rfl) fun a ha => ?_
  refine seg ha 1 [(12, .map (some g1)), (13, .string (bstr o))] (by kernel_rfl) fun a ha => ?_
  refine mlk (k := o) (z := (0 : Int)) ha u54 K9 rfl rfl (fun w => by kernel_rfl) rfl rfl rfl h1 fun a ha => ?_
  refine seg ha 5 [(6, .int .i64 ((mget x.labels o).getD 0)), (7, .bool (mget x.labels o).isSome)] (by kernel_rfl) fun a ha => ?_
  refine hK _ _ ?_; clear hK K
  refine wp_seq_k fun K hK => ?_
  refine wp_region_lit ?_
  refine seg ha 4 [(4, .int .i64 ((mget x.labels o).getD 0)), (5, .bool (mget x.labels o).isSome)] (by kernel_rfl) fun a ha => ?_
  refine hK _ _ ?_; clear hK K
  refine wp_ret ?_
  exact rt2 ha rfl rfl rfl ⟨rfl, Chg.refl _ _, hM⟩
def Pool_Owner.f (x : PoolS) (n : Int) : Option (List UInt8 × Bool) := some ((mget x.owners n).getD [], (mget x.owners n).isSome)
theorem Pool_Owner.walk (w : World) (M : List Nat) (hM : MS M w) (g : Nat) (L : List Nat) (x : PoolS) (f : PoolAt w g L x) (hL : ∀ y ∈ L, y ∈ M) (n : Int) (r : List UInt8 × Bool) (H : Pool_Owner.f x n = some r) :
    To Try.prog 19 [.pointer (some ⟨g, 0, none⟩), .int .i64 n] w fun v w' => v = .tuple #[.string (bstr r.1), .bool r.2] ∧ Chg [] w w' ∧ MS M w' := by
  unfold Pool_Owner.f at H
  obtain rfl := Option.some.inj H
  obtain ⟨g1, g2, rfl, n1, n2, n3, hB, h1, h2⟩ := f
  refine ent Try.func19 rfl [(0, .pointer (some ⟨g, 0, none⟩)), (1, .int .i64 n)] rfl (by rfl) fun a ha => ?_
  refine wp_seq_k fun K hK => ?_
  refine wp_region_lit ?_
  refine seg ha 2 [(0, .pointer (some ⟨g, 0, none⟩)), (1, .int .i64 n)] (by kernel_rfl) fun a ha => ?_
  refine hK _ _ ?_; clear hK K
  refine wp_seq_k fun K hK => ?_
  refine wp_region_lit ?_
  refine seg ha 3 [(1, .int .i64 n), (11, .pointer (some ⟨g, 3, none⟩))] (by kernel_rfl) fun a ha => ?_
  refine ld (v := .map (some g2)) ha rfl (by kernel_rfl) rfl rfl rfl (hB.cell' (o := 3) rfl rfl) fun a ha => ?_
  refine seg ha 1 [(12, .map (some g2)), (13, .int .i64 n)] (by kernel_rfl) fun a ha => ?_
  refine mlk (k := n) (z := ([] : List UInt8)) ha u55 K3 rfl rfl (fun w => by kernel_rfl) rfl rfl rfl h2 fun a ha => ?_
  refine seg ha 5 [(6, .string (bstr ((mget x.owners n).getD []))), (7, .bool (mget x.owners n).isSome)] (by kernel_rfl) fun a ha => ?_
  refine hK _ _ ?_; clear hK K
  refine wp_seq_k fun K hK => ?_
  refine wp_region_lit ?_
  refine seg ha 4 [(4, .string (bstr ((mget x.owners n).getD []))), (5, .bool (mget x.owners n).isSome)] (by kernel_rfl) fun a ha => ?_
  refine hK _ _ ?_; clear hK K
  refine wp_ret ?_
  exact rt2 ha rfl rfl rfl ⟨rfl, Chg.refl _ _, hM⟩
def Pool_Clear.f (x : PoolS) : Option PoolS := some ⟨x.first, x.count, [], []⟩
theorem Pool_Clear.walk (w : World) (M : List Nat) (hM : MS M w) (g : Nat) (L : List Nat) (x : PoolS) (f : PoolAt w g L x) (hL : ∀ y ∈ L, y ∈ M) (r : PoolS) (H : Pool_Clear.f x = some r) :
    To Try.prog 12 [.pointer (some ⟨g, 0, none⟩)] w fun v w' => v = .tuple #[] ∧ PoolAt w' g L r ∧ Chg L w w' ∧ MS M w' := by
  unfold Pool_Clear.f at H
  obtain rfl := Option.some.inj H
  obtain ⟨g1, g2, rfl, n1, n2, n3, hB, h1, h2⟩ := f
  refine ent Try.func12 rfl [(0, .pointer (some ⟨g, 0, none⟩))] rfl (by rfl) fun a ha => ?_
  refine wp_seq_k fun K hK => ?_
  refine wp_region_lit ?_
  refine seg ha 3 [(0, .pointer (some ⟨g, 0, none⟩)), (4, .pointer (some ⟨g, 2, none⟩))] (by kernel_rfl) fun a ha => ?_
  refine ld (v := .map (some g1)) ha rfl (by kernel_rfl) rfl rfl rfl (hB.cell' (o := 2) rfl rfl) fun a ha => ?_
  refine mcl ha u54 rfl rfl h1 fun a w1 ha h1 c1 => ?_
  have hB := hB.chg c1 (by simp [n1])
  have h2 := h2.chg c1 (by simp [Ne.symm n3])
  refine wpl_end ?_
  have ha := ha.sel (env' := [(0, .pointer (some ⟨g, 0, none⟩))]) (by kernel_rfl)
  refine hK _ _ ?_; clear hK K
  refine wp_region_lit ?_
  refine seg ha 3 [(8, .pointer (some ⟨g, 3, none⟩))] (by kernel_rfl) fun a ha => ?_
  refine ld (v := .map (some g2)) ha rfl (by kernel_rfl) rfl rfl rfl (hB.cell' (o := 3) rfl rfl) fun a ha => ?_
  refine mcl ha u55 rfl rfl h2 fun a w2 ha h2 c2 => ?_
  have hB := hB.chg c2 (by simp [n2])
  have h1 := h1.chg c2 (by simp [n3])
  refine wpl_end ?_
  exact rt0 ha rfl ⟨rfl, ⟨g1, g2, rfl, n1, n2, n3, hB, h1, h2⟩, (c1.mono (gs' := [g, g1, g2]) (Ok.one (.inl (by simp)))).trans c2 (Ok.one (.inl (by simp))), (hM.chg c1).chg c2⟩
def Pool_Free.f (x : PoolS) (o : List UInt8) : Option (Bool × PoolS) :=
  if (mget x.labels o).isSome = true then some (true, ⟨x.first, x.count, mdel x.labels o, mdel x.owners ((mget x.labels o).getD 0)⟩) else some (false, x)
theorem Pool_Free.walk (w : World) (M : List Nat) (hM : MS M w) (g : Nat) (L : List Nat) (x : PoolS) (f : PoolAt w g L x) (hL : ∀ y ∈ L, y ∈ M) (o : List UInt8) (r : Bool × PoolS) (H : Pool_Free.f x o = some r) :
    To Try.prog 15 [.pointer (some ⟨g, 0, none⟩), .string (bstr o)] w fun v w' => v = .bool r.1 ∧ PoolAt w' g L r.2 ∧ Chg L w w' ∧ MS M w' := by
  unfold Pool_Free.f at H
  obtain ⟨g1, g2, rfl, n1, n2, n3, hB, h1, h2⟩ := f
  refine ent Try.func15 rfl [(0, .pointer (some ⟨g, 0, none⟩)), (1, .string (bstr o))] rfl (by rfl) fun a ha => ?_
  refine wp_seq_k fun K hK => ?_
  refine wp_region_lit ?_
  refine seg ha 1 [(0, .pointer (some ⟨g, 0, none⟩)), (1, .string (bstr o))] (by kernel_rfl) fun a ha => ?_
  refine hK _ _ ?_; clear hK K
  refine wp_seq_k fun K hK => ?_
  refine wp_region_lit ?_
  refine seg ha 3 [(0, .pointer (some ⟨g, 0, none⟩)), (1, .string (bstr o)), (10, .pointer (some ⟨g, 2, none⟩))] (by kernel_rfl) fun a ha => ?_
  refine ld (v := .map (some g1)) ha rfl (by kernel_rfl) rfl rfl rfl (hB.cell' (o := 2) rfl rfl) fun a ha => ?_
  refine seg ha 1 [(0, .pointer (some ⟨g, 0, none⟩)), (1, .string (bstr o)), (11, .map (some g1)), (12, .string (bstr o))] (by kernel_rfl) fun a ha => ?_
  refine mlk (k := o) (z := (0 : Int)) ha u54 K9 rfl rfl (fun w => by kernel_rfl) rfl rfl rfl h1 fun a ha => ?_
  refine seg ha 5 [(0, .pointer (some ⟨g, 0, none⟩)), (1, .string (bstr o)), (5, .int .i64 ((mget x.labels o).getD 0)), (6, .bool (mget x.labels o).isSome)] (by kernel_rfl) fun a ha => ?_
  refine hK _ _ ?_; clear hK K
  refine wp_seq_k fun K hK => ?_
  refine wp_seq_k fun K2 hK2 => ?_
  refine wp_region_lit ?_
  refine seg ha 1 [(0, .pointer (some ⟨g, 0, none⟩)), (1, .string (bstr o)), (5, .int .i64 ((mget x.labels o).getD 0)), (6, .bool (mget x.labels o).isSome), (16, .bool (mget x.labels o).isSome)] (by kernel_rfl) fun a ha => ?_
  refine hK2 _ _ ?_; clear hK2 K2
  have J : ∀ (a : Act) (w1 : World), Has a Try.f15.ntmps [(6, .bool r.1)] → PoolAt w1 g [g, g1, g2] r.2 → Chg [g, g1, g2] w w1 → MS M w1 → K a w1 := by
    intro a w1 ha hP hC hM
    refine hK _ _ ?_; clear hK K
    refine wp_seq_k fun K hK => ?_
    refine wp_region_lit ?_
    refine seg ha 2 [(4, .bool r.1)] (by kernel_rfl) fun a ha => ?_
    refine hK _ _ ?_; clear hK K
    refine wp_ret ?_
    exact rt1 ha rfl rfl ⟨rfl, hP, hC, hM⟩
  refine cnd ha rfl (fun hc => ?_) (fun hc => ?_)
  · have H := Option.some.inj (ite_t hc H)
    refine wp_seq_k fun K2 hK2 => ?_
    refine wp_region_lit ?_
    refine seg ha 3 [(0, .pointer (some ⟨g, 0, none⟩)), (1, .string (bstr o)), (5, .int .i64 ((mget x.labels o).getD 0)), (6, .bool (mget x.labels o).isSome), (19, .pointer (some ⟨g, 2, none⟩))] (by kernel_rfl) fun a ha => ?_
    refine ld (v := .map (some g1)) ha rfl (by kernel_rfl) rfl rfl rfl (hB.cell' (o := 2) rfl rfl) fun a ha => ?_
    refine seg ha 1 [(0, .pointer (some ⟨g, 0, none⟩)), (5, .int .i64 ((mget x.labels o).getD 0)), (6, .bool (mget x.labels o).isSome), (20, .map (some g1)), (21, .string (bstr o))] (by kernel_rfl) fun a ha => ?_
    refine mdl (k := o) ha u54 K9 rfl rfl rfl h1 fun a w1 ha h1 c1 => ?_
    have hB := hB.chg c1 (by simp [n1])
    have h2 := h2.chg c1 (by simp [Ne.symm n3])
    refine wpl_end ?_
    have ha := ha.sel (env' := [(0, .pointer (some ⟨g, 0, none⟩)), (5, .int .i64 ((mget x.labels o).getD 0)), (6, .bool (mget x.labels o).isSome)]) (by kernel_rfl)
    refine hK2 _ _ ?_; clear hK2 K2
    refine wp_region_lit ?_
    refine seg ha 3 [(5, .int .i64 ((mget x.labels o).getD 0)), (6, .bool (mget x.labels o).isSome), (24, .pointer (some ⟨g, 3, none⟩))] (by kernel_rfl) fun a ha => ?_
    refine ld (v := .map (some g2)) ha rfl (by kernel_rfl) rfl rfl rfl (hB.cell' (o := 3) rfl rfl) fun a ha => ?_
    refine seg ha 1 [(6, .bool (mget x.labels o).isSome), (25, .map (some g2)), (26, .int .i64 ((mget x.labels o).getD 0))] (by kernel_rfl) fun a ha => ?_
    refine mdl (k := (mget x.labels o).getD 0) ha u55 K3 rfl rfl rfl h2 fun a w2 ha h2 c2 => ?_
    have hB := hB.chg c2 (by simp [n2])
    have h1 := h1.chg c2 (by simp [n3])
    refine wpl_end ?_
    subst H
    have ha := ha.sel (env' := [(6, .bool (mget x.labels o).isSome)]) (by kernel_rfl)
    exact J _ _ (ha.lit hc) ⟨g1, g2, rfl, n1, n2, n3, hB, h1, h2⟩ ((c1.mono (gs' := [g, g1, g2]) (Ok.one (.inl (by simp)))).trans c2 (Ok.one (.inl (by simp)))) ((hM.chg c1).chg c2)
  · have H := Option.some.inj (ite_f hc H)
    refine wp_skip ?_
    subst H
    have ha := ha.sel (env' := [(6, .bool (mget x.labels o).isSome)]) (by kernel_rfl)
    exact J _ _ (ha.lit hc) ⟨g1, g2, rfl, n1, n2, n3, hB, h1, h2⟩ (Chg.refl _ _) hM
def Pool_New.f (a b : Int) : Option (Option PoolS × Int) := (if (if (if (if decide (a < (16 : Int)) = true then true else decide (a > (1048575 : Int))) = true then true else decide (b < (1 : Int))) = true then true else decide (b > IntKind.i64.wrap (IntKind.i64.wrap ((1048575 : Int) - a) + (1 : Int)))) = true then some (none, 1) else some (some ⟨a, b, [], []⟩, 0))
theorem Pool_New.walk (w : World) (M : List Nat) (hM : MS M w) (a0 b0 : Int) (r : Option PoolS × Int) (H : Pool_New.f a0 b0 = some r) :
    To Try.prog 9 [.int .i64 a0, .int .i64 b0] w fun v w' => ∃ po g L, v = .tuple #[.pointer po, .int .i64 r.2] ∧ (r.1 = none → po = none ∧ L = []) ∧ (∀ x, r.1 = some x → po = some ⟨g, 0, none⟩ ∧ PoolAt w' g L x) ∧ (∀ y ∈ L, w.heap.size ≤ y) ∧ Chg [] w w' ∧ MS (L ++ M) w' := by
  unfold Pool_New.f at H
  refine ent Try.func9 rfl [(0, .int .i64 a0), (1, .int .i64 b0)] rfl (by rfl) fun a ha => ?_
  refine wp_seq_k fun K hK => ?_
  refine wp_region_lit ?_
  refine seg ha 2 [(0, .int .i64 a0), (1, .int .i64 b0)] (by kernel_rfl) fun a ha => ?_
  refine hK _ _ ?_; clear hK K
  refine wp_seq_k fun K hK => ?_
  refine wp_seq_k fun K2 hK2 => ?_
  refine wp_region_lit ?_
  refine seg ha 17 [(0, .int .i64 a0), (1, .int .i64 b0), (22, .bool (if (if (if decide (a0 < (16 : Int)) = true then true else decide (a0 > (1048575 : Int))) = true then true else decide (b0 < (1 : Int))) = true then true else decide (b0 > IntKind.i64.wrap (IntKind.i64.wrap ((1048575 : Int) - a0) + (1 : Int)))))] (by kernel_rfl) fun a ha => ?_
  refine hK2 _ _ ?_; clear hK2 K2
  refine cnd ha rfl (fun hc => ?_) (fun hc => ?_)
  · have H := Option.some.inj (ite_t hc H)
    refine wp_seq_k fun K2 hK2 => ?_
    refine wp_region_lit ?_
    refine seg ha 2 [(4, .pointer none), (5, .int .i64 1)] (by kernel_rfl) fun a ha => ?_
    refine hK2 _ _ ?_; clear hK2 K2
    refine wp_ret ?_
    simp only [Exit.then, Exit.inBlock]
    subst H
    exact rt2 ha rfl rfl rfl ⟨none, 0, [], rfl, fun _ => ⟨rfl, rfl⟩, (fun x h => nomatch h), (fun _ h => nomatch h), Chg.refl _ _, hM⟩
  · have H := Option.some.inj (ite_f hc H)
    refine wp_skip ?_
    refine hK _ _ ?_; clear hK K
    refine wp_seq_k fun K hK => ?_
    refine wp_region_lit ?_
    refine seg ha 2 [(23, .int .i64 a0), (24, .int .i64 b0)] (by kernel_rfl) fun a ha => ?_
    refine mmk ha rfl rfl rfl fun a w1 g1 N1 ha => ?_
    refine mmk ha rfl rfl rfl fun a w2 g2 N2 ha => ?_
    refine opk (v := .agg #[.int .i64 a0, .int .i64 b0, .map (some g1), .map (some g2)]) ha rfl rfl rfl rfl rfl (fun w => by kernel_rfl) fun a ha => ?_
    refine bx (cs := [.int .i64 a0, .int .i64 b0, .map (some g1), .map (some g2)]) ha rfl rfl rfl rfl rfl fun a w3 g N3 ha => ?_
    refine seg ha 2 [(4, .pointer (some ⟨g, 0, none⟩)), (5, .int .i64 0)] (by kernel_rfl) fun a ha => ?_
    refine hK _ _ ?_; clear hK K
    refine wp_ret ?_
    subst H
    have z1 := N1.ge
    have z2 := N2.ge
    have z3 := N3.ge
    have s1 := N1.size
    have s2 := N2.size
    have s3 := N3.size
    have m1 : MapR kS (kI .i64) w3 g1 [] := (N1.mapR.chg N2.chg (fun h => nomatch h)).chg N3.chg (fun h => nomatch h)
    have m2 : MapR (kI .i64) kS w3 g2 [] := N2.mapR.chg N3.chg (fun h => nomatch h)
    refine rt2 ha rfl rfl rfl ⟨some ⟨g, 0, none⟩, g, [g, g1, g2], rfl, (fun h => nomatch h), ?_, ?_, ?_, ?_⟩
    · rintro x h
      obtain rfl := Option.some.inj h
      exact ⟨rfl, g1, g2, rfl, by omega, by omega, by omega, N3.box, m1, m2⟩
    · intro y hy
      simp at hy
      omega
    · exact (N1.chg.trans N2.chg (Ok.nil _ _)).trans N3.chg (Ok.nil _ _)
    · refine MS.app ?_ (((hM.chg N1.chg).chg N2.chg).chg N3.chg)
      intro y hy
      simp at hy
      omega
def Pool_Take.l0 (ow : List (Int × List UInt8)) : Nat → Int → Option Int
  | 0, _ => none
  | k + 1, n => if (mget ow n).isSome = true then Pool_Take.l0 ow k (IntKind.i64.wrap (n + (1 : Int))) else some n
def Pool_Take.f (k : Nat) (x : PoolS) (o : List UInt8) : Option (Int × Int × PoolS) :=
  if (mget x.labels o).isSome = true then some ((mget x.labels o).getD 0, 0, x) else
  if ((x.labels.length : Int) == x.count) = true then some (0, 6, x) else
  (Pool_Take.l0 x.owners k x.first).bind fun n => some (n, 0, ⟨x.first, x.count, mset x.labels o n, mset x.owners n o⟩)
theorem Pool_Take.walk (w : World) (M : List Nat) (hM : MS M w) (g : Nat) (L : List Nat) (x : PoolS) (f : PoolAt w g L x) (hL : ∀ y ∈ L, y ∈ M) (o : List UInt8) (k : Nat) (r : Int × Int × PoolS) (H : Pool_Take.f k x o = some r) :
    To Try.prog 10 [.pointer (some ⟨g, 0, none⟩), .string (bstr o)] w fun v w' => v = .tuple #[.int .i64 r.1, .int .i64 r.2.1] ∧ PoolAt w' g L r.2.2 ∧ Chg L w w' ∧ MS M w' := by
  unfold Pool_Take.f at H
  obtain ⟨g1, g2, rfl, n1, n2, n3, hB, h1, h2⟩ := f
  refine ent Try.func10 rfl [(0, .pointer (some ⟨g, 0, none⟩)), (1, .string (bstr o))] rfl (by rfl) fun a ha => ?_
  refine wp_seq_k fun K hK => ?_
  refine wp_region_lit ?_
  refine seg ha 2 [(0, .pointer (some ⟨g, 0, none⟩)), (1, .string (bstr o))] (by kernel_rfl) fun a ha => ?_
  refine hK _ _ ?_; clear hK K
  refine wp_seq_k fun K hK => ?_
  refine wp_seq_k fun K2 hK2 => ?_
  refine wp_region_lit ?_
  refine seg ha 3 [(0, .pointer (some ⟨g, 0, none⟩)), (1, .string (bstr o)), (14, .pointer (some ⟨g, 2, none⟩))] (by kernel_rfl) fun a ha => ?_
  refine ld (v := .map (some g1)) ha rfl (by kernel_rfl) rfl rfl rfl (hB.cell' (o := 2) rfl rfl) fun a ha => ?_
  refine seg ha 1 [(0, .pointer (some ⟨g, 0, none⟩)), (1, .string (bstr o)), (15, .map (some g1)), (16, .string (bstr o))] (by kernel_rfl) fun a ha => ?_
  refine mlk (k := o) (z := (0 : Int)) ha u54 K9 rfl rfl (fun w => by kernel_rfl) rfl rfl rfl h1 fun a ha => ?_
  refine seg ha 5 [(0, .pointer (some ⟨g, 0, none⟩)), (1, .string (bstr o)), (6, .int .i64 ((mget x.labels o).getD 0)), (7, .bool (mget x.labels o).isSome)] (by kernel_rfl) fun a ha => ?_
  refine hK2 _ _ ?_; clear hK2 K2
  refine wp_seq_k fun K2 hK2 => ?_
  refine wp_region_lit ?_
  refine seg ha 1 [(0, .pointer (some ⟨g, 0, none⟩)), (1, .string (bstr o)), (6, .int .i64 ((mget x.labels o).getD 0)), (20, .bool (mget x.labels o).isSome)] (by kernel_rfl) fun a ha => ?_
  refine hK2 _ _ ?_; clear hK2 K2
  refine cnd ha rfl (fun hc => ?_) (fun hc => ?_)
  · have H := Option.some.inj (ite_t hc H)
    refine wp_seq_k fun K2 hK2 => ?_
    refine wp_region_lit ?_
    refine seg ha 3 [(4, .int .i64 ((mget x.labels o).getD 0)), (5, .int .i64 0)] (by kernel_rfl) fun a ha => ?_
    refine hK2 _ _ ?_; clear hK2 K2
    refine wp_ret ?_
    simp only [Exit.then, Exit.inBlock]
    subst H
    exact rt2 ha rfl rfl rfl ⟨rfl, ⟨g1, g2, rfl, n1, n2, n3, hB, h1, h2⟩, Chg.refl _ _, hM⟩
  have H := ite_f hc H
  refine wp_skip ?_
  refine hK _ _ ?_; clear hK K
  refine wp_seq_k fun K hK => ?_
  refine wp_seq_k fun K2 hK2 => ?_
  refine drq0 (fun w' => Chg [] w w') (by kernel_rfl) (by kernel_rfl) (fun _ h => h) ?_
  refine qp 0 (.pointer (some ⟨g, 0, none⟩)) ha rfl rfl rfl (by kernel_rfl) fun a ha => ?_
  refine qp 0 (.pointer (some ⟨g, 0, none⟩)) ha rfl rfl rfl (by kernel_rfl) fun a ha => ?_
  refine qp 0 (.pointer (some ⟨g, 2, none⟩)) ha rfl rfl rfl (by kernel_rfl) fun a ha => ?_
  refine qv (v := .map (some g1)) ha rfl rfl rfl (fun w' hs => ld_run ha rfl (by kernel_rfl) ((hB.chg hs (fun h => nomatch h)).cell' (o := 2) rfl rfl)) fun a ha => ?_
  refine qv (v := .int .i64 (x.labels.length : Int)) ha rfl rfl rfl (fun w' hs => mln_run ha u54 rfl (h1.chg hs (fun h => nomatch h))) fun a ha => ?_
  refine qp 0 (.pointer (some ⟨g, 0, none⟩)) ha rfl rfl rfl (by kernel_rfl) fun a ha => ?_
  refine qp 0 (.pointer (some ⟨g, 0, none⟩)) ha rfl rfl rfl (by kernel_rfl) fun a ha => ?_
  refine qp 0 (.pointer (some ⟨g, 1, none⟩)) ha rfl rfl rfl (by kernel_rfl) fun a ha => ?_
  refine qv (v := .int .i64 x.count) ha rfl rfl rfl (fun w' hs => ld_run ha rfl (by kernel_rfl) ((hB.chg hs (fun h => nomatch h)).cell' (o := 1) rfl rfl)) fun a ha => ?_
  refine qp 0 (.bool ((x.labels.length : Int) == x.count)) ha rfl rfl rfl (by kernel_rfl) fun a ha => ?_
  have ha := ha.sel (env' := [(31, .bool ((x.labels.length : Int) == x.count)), (0, .pointer (some ⟨g, 0, none⟩)), (1, .string (bstr o))]) (by kernel_rfl)
  intro w1 hs
  refine wpl_end ?_
  have hB := hB.chg hs (fun h => nomatch h)
  have h1 := h1.chg hs (fun h => nomatch h)
  have h2 := h2.chg hs (fun h => nomatch h)
  have hM := hM.chg hs
  have hC : Chg [g, g1, g2] w w1 := hs.mono (Ok.nil _ _)
  refine hK2 _ _ ?_; clear hK2 K2
  refine cnd ha rfl (fun hc2 => ?_) (fun hc2 => ?_)
  · have H := Option.some.inj (ite_t hc2 H)
    refine wp_seq_k fun K2 hK2 => ?_
    refine wp_region_lit ?_
    refine seg ha 2 [(4, .int .i64 0), (5, .int .i64 6)] (by kernel_rfl) fun a ha => ?_
    refine hK2 _ _ ?_; clear hK2 K2
    refine wp_ret ?_
    simp only [Exit.then, Exit.inBlock]
    subst H
    exact rt2 ha rfl rfl rfl ⟨rfl, ⟨g1, g2, rfl, n1, n2, n3, hB, h1, h2⟩, hC, hM⟩
  have H := ite_f hc2 H
  refine wp_skip ?_
  refine hK _ _ ?_; clear hK K
  obtain ⟨s, Hs, H⟩ := bind_some H
  have H := Option.some.inj H
  refine wp_seq_k fun K hK => ?_
  refine wp_region_lit ?_
  refine seg ha 3 [(0, .pointer (some ⟨g, 0, none⟩)), (1, .string (bstr o)), (34, .pointer (some ⟨g, 0, none⟩))] (by kernel_rfl) fun a ha => ?_
  refine ld (v := .int .i64 x.first) ha rfl (by kernel_rfl) rfl rfl rfl (hB.cell' (o := 0) rfl rfl) fun a ha => ?_
  refine seg ha 1 [(0, .pointer (some ⟨g, 0, none⟩)), (1, .string (bstr o)), (8, .int .i64 x.first)] (by kernel_rfl) fun a ha => ?_
  refine hK _ _ ?_; clear hK K
  refine wp_seq_k fun K hK => ?_
  refine wp_seq_k fun K2 hK2 => ?_
  refine wp_region_lit ?_
  refine seg ha 3 [(0, .pointer (some ⟨g, 0, none⟩)), (1, .string (bstr o)), (8, .int .i64 x.first), (39, .pointer (some ⟨g, 3, none⟩))] (by kernel_rfl) fun a ha => ?_
  refine ld (v := .map (some g2)) ha rfl (by kernel_rfl) rfl rfl rfl (hB.cell' (o := 3) rfl rfl) fun a ha => ?_
  refine seg ha 1 [(0, .pointer (some ⟨g, 0, none⟩)), (1, .string (bstr o)), (8, .int .i64 x.first), (40, .map (some g2)), (41, .int .i64 x.first)] (by kernel_rfl) fun a ha => ?_
  refine mlk (k := x.first) (z := ([] : List UInt8)) ha u55 K3 rfl rfl (fun w => by kernel_rfl) rfl rfl rfl h2 fun a ha => ?_
  refine seg ha 5 [(0, .pointer (some ⟨g, 0, none⟩)), (1, .string (bstr o)), (8, .int .i64 x.first), (10, .bool (mget x.owners x.first).isSome)] (by kernel_rfl) fun a ha => ?_
  refine hK2 _ _ ?_; clear hK2 K2
  refine wp_block ?_
  have J : ∀ (a : Act) (w1 : World), Has a Try.f10.ntmps [(0, .pointer (some ⟨g, 0, none⟩)), (1, .string (bstr o)), (8, .int .i64 s)] → Box w1 g [.int .i64 x.first, .int .i64 x.count, .map (some g1), .map (some g2)] → MapR kS (kI .i64) w1 g1 x.labels → MapR (kI .i64) kS w1 g2 x.owners → Chg [g, g1, g2] w w1 → MS M w1 → K a w1 := by
    intro a w1 ha hB h1 h2 hC hM
    refine hK _ _ ?_; clear hK K
    refine wp_seq_k fun K hK => ?_
    refine drw (fun w' => Chg [g1, g2] w1 w') (by kernel_rfl) fun w2 hs _ => ?_
    have hS : Chg [g1, g2] w1 w2 := hs.mono (Ok.nil _ _)
    refine tkpz 0 0 (.pointer (some ⟨g, 0, none⟩)) ha (s := hS) (q := fun a ha => ?_)
    refine tkpz 1 0 (.pointer (some ⟨g, 0, none⟩)) ha (s := hS) (q := fun a ha => ?_)
    refine tkpz 2 0 (.pointer (some ⟨g, 2, none⟩)) ha (s := hS) (q := fun a ha => ?_)
    refine tkz 3 ha (v := .map (some g1)) (y := fun w' hs => ld_run ha rfl (by kernel_rfl) ((hB.chg hs (by simp [n1, n2])).cell' (o := 2) rfl rfl)) (s := hS) (q := fun a ha => ?_)
    refine tkpz 4 0 (.string (bstr o)) ha (s := hS) (q := fun a ha => ?_)
    refine tkpz 5 0 (.pointer (some ⟨g, 0, none⟩)) ha (s := hS) (q := fun a ha => ?_)
    refine tkpz 6 0 (.pointer (some ⟨g, 0, none⟩)) ha (s := hS) (q := fun a ha => ?_)
    refine tkpz 7 0 (.pointer (some ⟨g, 3, none⟩)) ha (s := hS) (q := fun a ha => ?_)
    refine tkz 8 ha (v := .map (some g2)) (y := fun w' hs => ld_run ha rfl (by kernel_rfl) ((hB.chg hs (by simp [n1, n2])).cell' (o := 3) rfl rfl)) (s := hS) (q := fun a ha => ?_)
    refine tkpz 9 0 (.int .i64 s) ha (s := hS) (q := fun a ha => ?_)
    refine tkpz 10 0 (.int .i64 s) ha (s := hS) (q := fun a ha => ?_)
    refine tkpz 11 0 (.string (bstr o)) ha (s := hS) (q := fun a ha => ?_)
    have ha := ha.sel (env' := [(60, .map (some g1)), (61, .string (bstr o)), (67, .int .i64 s), (65, .map (some g2)), (66, .int .i64 s), (68, .string (bstr o)), (8, .int .i64 s)]) (by kernel_rfl)
    have hB := hB.chg hs (fun h => nomatch h)
    have h1 := h1.chg hs (fun h => nomatch h)
    have h2 := h2.chg hs (fun h => nomatch h)
    have hM := hM.chg hs
    have hC := hC.trans hs (Ok.nil _ _)
    refine ac 12 (by kernel_rfl) rfl fun K2 hK2 => ?_
    refine men (k := o) (z := (0 : Int)) ha u54 K9 rfl rfl (fun w => by kernel_rfl) rfl rfl rfl h1 fun a w3 st ha e1 c3 => ?_
    have hS := hS.trans c3 (Ok.one (.inl (by simp)))
    have hB := hB.chg c3 (by simp [n1])
    have h2 := h2.chg c3 (by simp [Ne.symm n3])
    have hM := hM.chg c3
    have hC := hC.trans c3 (Ok.one (.inl (by simp)))
    refine ae hK2 hS ?_
    clear hK2 K2
    refine tkpz 13 0 (.int .i64 st) ha (s := hS) (q := fun a ha => ?_)
    refine ac 14 (by kernel_rfl) rfl fun K2 hK2 => ?_
    refine mes (v := s) (kv := kS) (k := o) ha rfl rfl rfl rfl e1 fun a w4 ha h1 c4 => ?_
    have hS := hS.trans c4 (Ok.one (.inl (by simp)))
    have hB := hB.chg c4 (by simp [n1])
    have h2 := h2.chg c4 (by simp [Ne.symm n3])
    have hM := hM.chg c4
    have hC := hC.trans c4 (Ok.one (.inl (by simp)))
    refine ae hK2 hS ?_
    clear hK2 K2
    refine ac 15 (by kernel_rfl) rfl fun K2 hK2 => ?_
    refine men (k := s) (z := ([] : List UInt8)) ha u55 K3 rfl rfl (fun w => by kernel_rfl) rfl rfl rfl h2 fun a w5 st2 ha e2 c5 => ?_
    have hS := hS.trans c5 (Ok.one (.inl (by simp)))
    have hB := hB.chg c5 (by simp [n2])
    have h1 := h1.chg c5 (by simp [n3])
    have hM := hM.chg c5
    have hC := hC.trans c5 (Ok.one (.inl (by simp)))
    refine ae hK2 hS ?_
    clear hK2 K2
    refine tkpz 16 0 (.int .i64 st2) ha (s := hS) (q := fun a ha => ?_)
    refine ac 17 (by kernel_rfl) rfl fun K2 hK2 => ?_
    refine mes (v := o) (kv := kI .i64) (k := s) ha rfl rfl rfl rfl e2 fun a w6 ha h2 c6 => ?_
    have hS := hS.trans c6 (Ok.one (.inl (by simp)))
    have hB := hB.chg c6 (by simp [n2])
    have h1 := h1.chg c6 (by simp [n3])
    have hM := hM.chg c6
    have hC := hC.trans c6 (Ok.one (.inl (by simp)))
    refine ae hK2 hS ?_
    clear hK2 K2
    refine dn (by kernel_rfl) ?_
    have ha := ha.sel (env' := [(8, .int .i64 s)]) (by kernel_rfl)
    refine hK _ _ ?_; clear hK K
    refine wp_seq_k fun K hK => ?_
    refine wp_region_lit ?_
    refine seg ha 3 [(4, .int .i64 s), (5, .int .i64 0)] (by kernel_rfl) fun a ha => ?_
    refine hK _ _ ?_; clear hK K
    refine wp_ret ?_
    subst H
    exact rt2 ha rfl rfl rfl ⟨rfl, ⟨g1, g2, rfl, n1, n2, n3, hB, h1, h2⟩, hC, hM⟩
  refine wp_loop_ghost (fun kk a w1 => ∃ n : Int, Pool_Take.l0 x.owners kk n = some s ∧ Has a Try.f10.ntmps [(0, .pointer (some ⟨g, 0, none⟩)), (1, .string (bstr o)), (8, .int .i64 n), (10, .bool (mget x.owners n).isSome)] ∧ Box w1 g [.int .i64 x.first, .int .i64 x.count, .map (some g1), .map (some g2)] ∧ MapR kS (kI .i64) w1 g1 x.labels ∧ MapR (kI .i64) kS w1 g2 x.owners ∧ Chg [g, g1, g2] w w1 ∧ MS M w1) k ?_ ?_
  · exact ⟨x.first, Hs, ha.sel (by kernel_rfl), hB, h1, h2, hC, hM⟩
  · rintro kk a w2 ⟨n, Hn, ha, hB, h1, h2, hC, hM⟩
    obtain _ | kk := kk
    · exact nomatch (show none = some _ from Hn)
    rw [Pool_Take.l0] at Hn
    refine wp_seq_k fun K2 hK2 => ?_
    refine wp_seq_k fun K3 hK3 => ?_
    refine wp_region_lit ?_
    refine seg ha 1 [(0, .pointer (some ⟨g, 0, none⟩)), (1, .string (bstr o)), (8, .int .i64 n), (45, .bool (mget x.owners n).isSome)] (by kernel_rfl) fun a ha => ?_
    refine hK3 _ _ ?_; clear hK3 K3
    refine cnd ha rfl (fun hc3 => ?_) (fun hc3 => ?_)
    · have Hn := ite_t hc3 Hn
      refine wp_skip ?_
      refine hK2 _ _ ?_; clear hK2 K2
      refine wp_seq_k fun K2 hK2 => ?_
      refine wp_block ?_
      refine wp_region_lit ?_
      refine seg ha 3 [(0, .pointer (some ⟨g, 0, none⟩)), (1, .string (bstr o)), (8, .int .i64 (IntKind.i64.wrap (n + (1 : Int))))] (by kernel_rfl) fun a ha => ?_
      refine hK2 _ _ ?_; clear hK2 K2
      refine wp_region_lit ?_
      refine seg ha 3 [(0, .pointer (some ⟨g, 0, none⟩)), (1, .string (bstr o)), (8, .int .i64 (IntKind.i64.wrap (n + (1 : Int)))), (49, .pointer (some ⟨g, 3, none⟩))] (by kernel_rfl) fun a ha => ?_
      refine ld (v := .map (some g2)) ha rfl (by kernel_rfl) rfl rfl rfl (hB.cell' (o := 3) rfl rfl) fun a ha => ?_
      refine seg ha 1 [(0, .pointer (some ⟨g, 0, none⟩)), (1, .string (bstr o)), (8, .int .i64 (IntKind.i64.wrap (n + (1 : Int)))), (50, .map (some g2)), (51, .int .i64 (IntKind.i64.wrap (n + (1 : Int))))] (by kernel_rfl) fun a ha => ?_
      refine mlk (k := IntKind.i64.wrap (n + (1 : Int))) (z := ([] : List UInt8)) ha u55 K3 rfl rfl (fun w => by kernel_rfl) rfl rfl rfl h2 fun a ha => ?_
      refine seg ha 4 [(0, .pointer (some ⟨g, 0, none⟩)), (1, .string (bstr o)), (8, .int .i64 (IntKind.i64.wrap (n + (1 : Int)))), (10, .bool (mget x.owners (IntKind.i64.wrap (n + (1 : Int)))).isSome)] (by kernel_rfl) fun a ha => ?_
      exact ⟨kk, Nat.lt_succ_self _, ⟨_, Hn, ha.sel (by kernel_rfl), hB, h1, h2, hC, hM⟩⟩
    · have Hn := ite_f hc3 Hn
      refine wp_exit ?_
      simp only [Exit.then, Exit.inBlock, ↓reduceIte, Nat.reduceEqDiff]
      obtain rfl := Option.some.inj Hn
      exact J _ _ (ha.sel (by kernel_rfl)) hB h1 h2 hC hM



def vinerylaw05_small.f (k : Nat) : Option (Bool) := (label_Bytes.f k (16 : Int) true).bind fun t3 => (Pool_New.f (16 : Int) (2 : Int)).bind fun t6 => om t6.1 (some ((false : Bool))) fun x6 => (Pool_Take.f k x6 ([97] : List UInt8)).bind fun t15 => (Pool_Take.f k t15.2.2 ([98] : List UInt8)).bind fun t17 => (Pool_Take.f k t17.2.2 ([99] : List UInt8)).bind fun t19 => (Pool_Free.f t19.2.2 ([97] : List UInt8)).bind fun t21 => (Pool_Take.f k t21.2 ([99] : List UInt8)).bind fun t23 => ((if (t3.2 == (0 : Int)) = true then (if ((bstr (b2s t3.1)).toList == (bstr ([0, 1, 1] : List UInt8)).toList) = true then (if (t6.2 == (0 : Int)) = true then (if (t15.2.1 == (0 : Int)) = true then (if (t15.1 == (16 : Int)) = true then (if (t17.2.1 == (0 : Int)) = true then (if (t17.1 == (17 : Int)) = true then (if (t19.2.1 == (6 : Int)) = true then (if t21.1 = true then (if (t23.2.1 == (0 : Int)) = true then some (t23.1 == (16 : Int) : Bool) else some (false : Bool)) else some (false : Bool)) else some (false : Bool)) else some (false : Bool)) else some (false : Bool)) else some (false : Bool)) else some (false : Bool)) else some (false : Bool)) else some (false : Bool)) else some (false : Bool))).bind fun s25 => some ((s25 : Bool))
set_option maxRecDepth 100000 in
theorem vinerylaw05_small.walk (w : World) (M : List Nat) (hM : MS M w)  (k : Nat) (r : Bool) (H : vinerylaw05_small.f k = some r) :
    To Try.prog 8 [] w fun v w' => v = .bool r ∧ Chg [] w w' ∧ MS (M) w' := by
 unfold vinerylaw05_small.f at H
 refine ent Try.func8 rfl [] rfl (by rfl) fun a ha => ?_
 have hC : Chg [] w w := Chg.refl _ _
 refine wp_seq_k fun K1 hK1 => ?_
 refine wp_region_lit ?_
 refine seg ha 1 [] (by kernel_rfl) fun a ha => ?_
 refine hK1 _ _ ?_; try clear hK1 K1
 refine wp_seq_k fun K2 hK2 => ?_
 refine wp_region_lit ?_
 obtain ⟨t3, H3, H⟩ := bind_some H
 refine cl ha (by rfl) (by kernel_rfl) (by rfl) (by rfl) (by rfl) (label_Bytes.walk w _ hM (16 : Int) true k _ H3) ?_
 rintro _ w3 ⟨ao4, cap4, rfl, f4, ne_i4, hc3, hMn⟩ a ha
 have p_i4_M : ∀ x ∈ blkL ao4, x ∉ M := fun x hx hy => absurd (hM x (hy)) (Nat.not_lt.2 (ne_i4 x hx))
 have e_i4 : ∀ x ∈ blkL ao4, w.heap.size ≤ x := fun x hx => Nat.le_trans hC.size (ne_i4 x hx)
 have hM : MS (blkL ao4 ++ (M)) w3 := (MS.app (fun x h => hMn x (ml h)) (hM.chg hc3))
 have hC := hC.trans hc3 (Ok.nil _ _)
 refine seg ha 5 [(1, .slice ao4 t3.1.length cap4), (2, .int .i64 t3.2)] (by kernel_rfl) fun a ha => ?_
 refine hK2 _ _ ?_; try clear hK2 K2
 refine wp_seq_k fun K5 hK5 => ?_
 refine wp_region_lit ?_
 obtain ⟨t6, H6, H⟩ := bind_some H
 refine cl ha (by rfl) (by kernel_rfl) (by rfl) (by rfl) (by rfl) (Pool_New.walk w3 _ hM (16 : Int) (2 : Int) _ H6) ?_
 rintro _ w6 ⟨po6, gO6, L6, rfl, hn6, hs6, ne_i6, hc6, hMn⟩ a ha
 rcases om_cases H with ⟨he6, H⟩ | ⟨x6, he6, H⟩
 ·skip
  obtain ⟨rfl, rfl⟩ := hn6 he6
  have o1 : Ok [] (blkL ao4 ++ (M)) w3.heap.size := Ok.nil _ _
  have o2 : Ok (blkL ao4 ++ (M)) (blkL ao4 ++ (M)) w3.heap.size := (Ok.refl _ _)
  have f4 := f4.chg hc6 o1 o2 (fun _ _ h => nomatch h) (fun _ h => ml h)
  have hM : MS (blkL ao4 ++ (M)) w6 := (hM.chg hc6)
  have hC := hC.trans hc6 (Ok.nil _ _)
  refine seg ha 5 [(1, .slice ao4 t3.1.length cap4), (2, .int .i64 t3.2), (3, .pointer none), (4, .int .i64 t6.2)] (by kernel_rfl) fun a ha => ?_
  refine hK5 _ _ ?_; try clear hK5 K5
  refine wp_seq_k fun K7 hK7 => ?_
  refine wp_seq_k fun K8 hK8 => ?_
  refine wp_region_lit ?_
  refine seg ha 2 [(1, .slice ao4 t3.1.length cap4), (2, .int .i64 t3.2), (3, .pointer none), (4, .int .i64 t6.2), (23, .bool true)] (by kernel_rfl) fun a ha => ?_
  refine hK8 _ _ ?_; try clear hK8 K8
  refine cnd ha rfl (fun _ => ?_) (fun h => nomatch h)
  refine wp_seq_k fun K10 hK10 => ?_
  refine wp_region_lit ?_
  refine seg ha 1 [(0, .bool false)] (by kernel_rfl) fun a ha => ?_
  refine hK10 _ _ ?_; try clear hK10 K10
  refine wp_ret ?_
  try simp only [Exit.then, Exit.inBlock]
  have hM : MS (M) w6 := (fun x h => hM.chg (Chg.refl [] _) x (mr (h)))
  have hC := hC.trans (Chg.refl [] _) (Ok.nil _ _)
  obtain rfl := Option.some.inj H
  refine rt1 ha rfl rfl ?_
  exact ⟨rfl, hC, hM⟩
 ·skip
  obtain ⟨rfl, fO6⟩ := hs6 x6 he6
  have o1 : Ok [] (blkL ao4 ++ (M)) w3.heap.size := Ok.nil _ _
  have o2 : Ok (L6 ++ (blkL ao4 ++ (M))) (blkL ao4 ++ (M)) w3.heap.size := (Ok.app (fun x h => .inr (ne_i6 x h)) (Ok.refl _ _))
  have f4 := f4.chg hc6 o1 o2 (fun _ _ h => nomatch h) (fun _ h => mr (ml h))
  have p_i6_i4 : ∀ x ∈ L6, x ∉ (blkL ao4) := fun x hx hy => absurd (hM x (ml hy)) (Nat.not_lt.2 (ne_i6 x hx))
  have p_i6_M : ∀ x ∈ L6, x ∉ M := fun x hx hy => absurd (hM x (mr (hy))) (Nat.not_lt.2 (ne_i6 x hx))
  have e_i6 : ∀ x ∈ L6, w.heap.size ≤ x := fun x hx => Nat.le_trans hC.size (ne_i6 x hx)
  have hM : MS (L6 ++ (blkL ao4 ++ (M))) w6 := (MS.app (fun x h => hMn x (ml h)) (hM.chg hc6))
  have hC := hC.trans hc6 (Ok.nil _ _)
  refine seg ha 5 [(1, .slice ao4 t3.1.length cap4), (2, .int .i64 t3.2), (3, .pointer (some ⟨gO6, 0, none⟩)), (4, .int .i64 t6.2)] (by kernel_rfl) fun a ha => ?_
  refine hK5 _ _ ?_; try clear hK5 K5
  refine wp_seq_k fun K11 hK11 => ?_
  refine wp_seq_k fun K12 hK12 => ?_
  refine wp_region_lit ?_
  refine seg ha 2 [(1, .slice ao4 t3.1.length cap4), (2, .int .i64 t3.2), (3, .pointer (some ⟨gO6, 0, none⟩)), (4, .int .i64 t6.2), (23, .bool false)] (by kernel_rfl) fun a ha => ?_
  refine hK12 _ _ ?_; try clear hK12 K12
  refine cnd ha rfl (fun h => nomatch h) (fun _ => ?_)
  refine wp_skip ?_
  refine hK11 _ _ ?_; try clear hK11 K11
  refine wp_seq_k fun K14 hK14 => ?_
  refine wp_region_lit ?_
  refine seg ha 1 [(1, .slice ao4 t3.1.length cap4), (2, .int .i64 t3.2), (3, .pointer (some ⟨gO6, 0, none⟩)), (4, .int .i64 t6.2), (25, .pointer (some ⟨gO6, 0, none⟩))] (by kernel_rfl) fun a ha => ?_
  obtain ⟨t15, H15, H⟩ := bind_some H
  refine cl ha (by rfl) (by kernel_rfl) (by rfl) (by rfl) (by rfl) (Pool_Take.walk w6 _ hM gO6 L6 x6 fO6 (fun _ h => ml h) ([97] : List UInt8) k _ H15) ?_
  rintro _ w15 ⟨rfl, nf15, hc15, hMn⟩ a ha
  have o1 : Ok L6 (L6 ++ (blkL ao4 ++ (M))) w6.heap.size := (fun _ h => .inl (ml h))
  have o2 : Ok (L6 ++ (blkL ao4 ++ (M))) (L6 ++ (blkL ao4 ++ (M))) w6.heap.size := (Ok.refl _ _)
  have f4 := f4.chg hc15 o1 o2 (fun x (hx : x ∈ blkL ao4) (hy : x ∈ L6) => p_i6_i4 x hy hx) (fun _ h => mr (ml h))
  have hM : MS (L6 ++ (blkL ao4 ++ (M))) w15 := (hM.chg hc15)
  have hC := hC.trans hc15 (fun x h => .inr (e_i6 x h))
  have fO6 := nf15
  refine seg ha 5 [(1, .slice ao4 t3.1.length cap4), (2, .int .i64 t3.2), (3, .pointer (some ⟨gO6, 0, none⟩)), (4, .int .i64 t6.2), (5, .int .i64 t15.1), (6, .int .i64 t15.2.1)] (by kernel_rfl) fun a ha => ?_
  refine hK14 _ _ ?_; try clear hK14 K14
  refine wp_seq_k fun K16 hK16 => ?_
  refine wp_region_lit ?_
  refine seg ha 1 [(1, .slice ao4 t3.1.length cap4), (2, .int .i64 t3.2), (3, .pointer (some ⟨gO6, 0, none⟩)), (4, .int .i64 t6.2), (5, .int .i64 t15.1), (6, .int .i64 t15.2.1), (30, .pointer (some ⟨gO6, 0, none⟩))] (by kernel_rfl) fun a ha => ?_
  obtain ⟨t17, H17, H⟩ := bind_some H
  refine cl ha (by rfl) (by kernel_rfl) (by rfl) (by rfl) (by rfl) (Pool_Take.walk w15 _ hM gO6 L6 t15.2.2 fO6 (fun _ h => ml h) ([98] : List UInt8) k _ H17) ?_
  rintro _ w17 ⟨rfl, nf17, hc17, hMn⟩ a ha
  have o1 : Ok L6 (L6 ++ (blkL ao4 ++ (M))) w15.heap.size := (fun _ h => .inl (ml h))
  have o2 : Ok (L6 ++ (blkL ao4 ++ (M))) (L6 ++ (blkL ao4 ++ (M))) w15.heap.size := (Ok.refl _ _)
  have f4 := f4.chg hc17 o1 o2 (fun x (hx : x ∈ blkL ao4) (hy : x ∈ L6) => p_i6_i4 x hy hx) (fun _ h => mr (ml h))
  have hM : MS (L6 ++ (blkL ao4 ++ (M))) w17 := (hM.chg hc17)
  have hC := hC.trans hc17 (fun x h => .inr (e_i6 x h))
  have fO6 := nf17
  refine seg ha 5 [(1, .slice ao4 t3.1.length cap4), (2, .int .i64 t3.2), (3, .pointer (some ⟨gO6, 0, none⟩)), (4, .int .i64 t6.2), (5, .int .i64 t15.1), (6, .int .i64 t15.2.1), (7, .int .i64 t17.1), (8, .int .i64 t17.2.1)] (by kernel_rfl) fun a ha => ?_
  refine hK16 _ _ ?_; try clear hK16 K16
  refine wp_seq_k fun K18 hK18 => ?_
  refine wp_region_lit ?_
  refine seg ha 1 [(1, .slice ao4 t3.1.length cap4), (2, .int .i64 t3.2), (3, .pointer (some ⟨gO6, 0, none⟩)), (4, .int .i64 t6.2), (5, .int .i64 t15.1), (6, .int .i64 t15.2.1), (7, .int .i64 t17.1), (8, .int .i64 t17.2.1), (35, .pointer (some ⟨gO6, 0, none⟩))] (by kernel_rfl) fun a ha => ?_
  obtain ⟨t19, H19, H⟩ := bind_some H
  refine cl ha (by rfl) (by kernel_rfl) (by rfl) (by rfl) (by rfl) (Pool_Take.walk w17 _ hM gO6 L6 t17.2.2 fO6 (fun _ h => ml h) ([99] : List UInt8) k _ H19) ?_
  rintro _ w19 ⟨rfl, nf19, hc19, hMn⟩ a ha
  have o1 : Ok L6 (L6 ++ (blkL ao4 ++ (M))) w17.heap.size := (fun _ h => .inl (ml h))
  have o2 : Ok (L6 ++ (blkL ao4 ++ (M))) (L6 ++ (blkL ao4 ++ (M))) w17.heap.size := (Ok.refl _ _)
  have f4 := f4.chg hc19 o1 o2 (fun x (hx : x ∈ blkL ao4) (hy : x ∈ L6) => p_i6_i4 x hy hx) (fun _ h => mr (ml h))
  have hM : MS (L6 ++ (blkL ao4 ++ (M))) w19 := (hM.chg hc19)
  have hC := hC.trans hc19 (fun x h => .inr (e_i6 x h))
  have fO6 := nf19
  refine seg ha 5 [(1, .slice ao4 t3.1.length cap4), (2, .int .i64 t3.2), (3, .pointer (some ⟨gO6, 0, none⟩)), (4, .int .i64 t6.2), (5, .int .i64 t15.1), (6, .int .i64 t15.2.1), (7, .int .i64 t17.1), (8, .int .i64 t17.2.1), (10, .int .i64 t19.2.1)] (by kernel_rfl) fun a ha => ?_
  refine hK18 _ _ ?_; try clear hK18 K18
  refine wp_seq_k fun K20 hK20 => ?_
  refine wp_region_lit ?_
  refine seg ha 1 [(1, .slice ao4 t3.1.length cap4), (2, .int .i64 t3.2), (3, .pointer (some ⟨gO6, 0, none⟩)), (4, .int .i64 t6.2), (5, .int .i64 t15.1), (6, .int .i64 t15.2.1), (7, .int .i64 t17.1), (8, .int .i64 t17.2.1), (10, .int .i64 t19.2.1), (39, .pointer (some ⟨gO6, 0, none⟩))] (by kernel_rfl) fun a ha => ?_
  obtain ⟨t21, H21, H⟩ := bind_some H
  refine cl ha (by rfl) (by kernel_rfl) (by rfl) (by rfl) (by rfl) (Pool_Free.walk w19 _ hM gO6 L6 t19.2.2 fO6 (fun _ h => ml h) ([97] : List UInt8) _ H21) ?_
  rintro _ w21 ⟨rfl, nf21, hc21, hMn⟩ a ha
  have o1 : Ok L6 (L6 ++ (blkL ao4 ++ (M))) w19.heap.size := (fun _ h => .inl (ml h))
  have o2 : Ok (L6 ++ (blkL ao4 ++ (M))) (L6 ++ (blkL ao4 ++ (M))) w19.heap.size := (Ok.refl _ _)
  have f4 := f4.chg hc21 o1 o2 (fun x (hx : x ∈ blkL ao4) (hy : x ∈ L6) => p_i6_i4 x hy hx) (fun _ h => mr (ml h))
  have hM : MS (L6 ++ (blkL ao4 ++ (M))) w21 := (hM.chg hc21)
  have hC := hC.trans hc21 (fun x h => .inr (e_i6 x h))
  have fO6 := nf21
  refine seg ha 1 [(1, .slice ao4 t3.1.length cap4), (2, .int .i64 t3.2), (3, .pointer (some ⟨gO6, 0, none⟩)), (4, .int .i64 t6.2), (5, .int .i64 t15.1), (6, .int .i64 t15.2.1), (7, .int .i64 t17.1), (8, .int .i64 t17.2.1), (10, .int .i64 t19.2.1), (11, .bool t21.1)] (by kernel_rfl) fun a ha => ?_
  refine hK20 _ _ ?_; try clear hK20 K20
  refine wp_seq_k fun K22 hK22 => ?_
  refine wp_region_lit ?_
  refine seg ha 1 [(1, .slice ao4 t3.1.length cap4), (2, .int .i64 t3.2), (4, .int .i64 t6.2), (5, .int .i64 t15.1), (6, .int .i64 t15.2.1), (7, .int .i64 t17.1), (8, .int .i64 t17.2.1), (10, .int .i64 t19.2.1), (11, .bool t21.1), (42, .pointer (some ⟨gO6, 0, none⟩))] (by kernel_rfl) fun a ha => ?_
  obtain ⟨t23, H23, H⟩ := bind_some H
  refine cl ha (by rfl) (by kernel_rfl) (by rfl) (by rfl) (by rfl) (Pool_Take.walk w21 _ hM gO6 L6 t21.2 fO6 (fun _ h => ml h) ([99] : List UInt8) k _ H23) ?_
  rintro _ w23 ⟨rfl, nf23, hc23, hMn⟩ a ha
  have o1 : Ok L6 (L6 ++ (blkL ao4 ++ (M))) w21.heap.size := (fun _ h => .inl (ml h))
  have o2 : Ok (L6 ++ (blkL ao4 ++ (M))) (L6 ++ (blkL ao4 ++ (M))) w21.heap.size := (Ok.refl _ _)
  have f4 := f4.chg hc23 o1 o2 (fun x (hx : x ∈ blkL ao4) (hy : x ∈ L6) => p_i6_i4 x hy hx) (fun _ h => mr (ml h))
  have hM : MS (L6 ++ (blkL ao4 ++ (M))) w23 := (hM.chg hc23)
  have hC := hC.trans hc23 (fun x h => .inr (e_i6 x h))
  have fO6 := nf23
  refine seg ha 5 [(1, .slice ao4 t3.1.length cap4), (2, .int .i64 t3.2), (4, .int .i64 t6.2), (5, .int .i64 t15.1), (6, .int .i64 t15.2.1), (7, .int .i64 t17.1), (8, .int .i64 t17.2.1), (10, .int .i64 t19.2.1), (11, .bool t21.1), (12, .int .i64 t23.1), (13, .int .i64 t23.2.1)] (by kernel_rfl) fun a ha => ?_
  refine hK22 _ _ ?_; try clear hK22 K22
  refine wp_seq_k fun K24 hK24 => ?_
  refine wp_region_lit ?_
  obtain ⟨s25, H25, H⟩ := bind_some H
  have J25 : ∀ (a : Act) (w25 : World), Has a Try.f8.ntmps [(0, .bool s25)] → (Chg [] w w25) → (MS (M) w25) → K24 a w25 := by
   intro a w25 ha hC hM
   refine hK24 _ _ ?_; try clear hK24 K24
   refine wp_ret ?_
   try simp only [Exit.then, Exit.inBlock]
   obtain rfl := Option.some.inj H
   refine rt1 ha rfl rfl ?_
   exact ⟨rfl, hC, hM⟩
  have H := H25
  refine seg ha 3 [(48, .bool (t3.2 == (0 : Int))), (1, .slice ao4 t3.1.length cap4), (4, .int .i64 t6.2), (5, .int .i64 t15.1), (6, .int .i64 t15.2.1), (7, .int .i64 t17.1), (8, .int .i64 t17.2.1), (10, .int .i64 t19.2.1), (11, .bool t21.1), (12, .int .i64 t23.1), (13, .int .i64 t23.2.1)] (by kernel_rfl) fun a ha => ?_
  rcases Bool.eq_false_or_eq_true (t3.2 == (0 : Int)) with hb26 | hb26
  ·have ha := ha.lit hb26
   have H := ite_t hb26 H
   refine sgh ha 1 [2] [(4, .int .i64 t6.2), (5, .int .i64 t15.1), (6, .int .i64 t15.2.1), (7, .int .i64 t17.1), (8, .int .i64 t17.2.1), (10, .int .i64 t19.2.1), (11, .bool t21.1), (12, .int .i64 t23.1), (13, .int .i64 t23.2.1), (48, .bool true), (49, .slice ao4 t3.1.length cap4)] (by kernel_rfl) fun a ha => ?_
   refine cvs ha rfl (by kernel_rfl) (by kernel_rfl) (by kernel_rfl) rfl rfl rfl (Own.toRSl (M' := []) f4 (Ok.nil _ _) (fun _ _ h => nomatch h)) fun a ha => ?_
   refine sgh ha 3 [2, 3, 0] [(53, .bool ((bstr (b2s t3.1)).toList == (bstr ([0, 1, 1] : List UInt8)).toList)), (4, .int .i64 t6.2), (5, .int .i64 t15.1), (6, .int .i64 t15.2.1), (7, .int .i64 t17.1), (8, .int .i64 t17.2.1), (10, .int .i64 t19.2.1), (11, .bool t21.1), (12, .int .i64 t23.1), (13, .int .i64 t23.2.1)] (by kernel_rfl) fun a ha => ?_
   rcases Bool.eq_false_or_eq_true ((bstr (b2s t3.1)).toList == (bstr ([0, 1, 1] : List UInt8)).toList) with hb27 | hb27
   ·have ha := ha.lit hb27
    have H := ite_t hb27 H
    refine sgh ha 4 [2, 2, 3, 0] [(57, .bool (t6.2 == (0 : Int))), (5, .int .i64 t15.1), (6, .int .i64 t15.2.1), (7, .int .i64 t17.1), (8, .int .i64 t17.2.1), (10, .int .i64 t19.2.1), (11, .bool t21.1), (12, .int .i64 t23.1), (13, .int .i64 t23.2.1)] (by kernel_rfl) fun a ha => ?_
    rcases Bool.eq_false_or_eq_true (t6.2 == (0 : Int)) with hb28 | hb28
    ·have ha := ha.lit hb28
     have H := ite_t hb28 H
     refine sgh ha 4 [2, 2, 3, 0] [(61, .bool (t15.2.1 == (0 : Int))), (5, .int .i64 t15.1), (7, .int .i64 t17.1), (8, .int .i64 t17.2.1), (10, .int .i64 t19.2.1), (11, .bool t21.1), (12, .int .i64 t23.1), (13, .int .i64 t23.2.1)] (by kernel_rfl) fun a ha => ?_
     rcases Bool.eq_false_or_eq_true (t15.2.1 == (0 : Int)) with hb29 | hb29
     ·have ha := ha.lit hb29
      have H := ite_t hb29 H
      refine sgh ha 4 [2, 2, 3, 0] [(65, .bool (t15.1 == (16 : Int))), (7, .int .i64 t17.1), (8, .int .i64 t17.2.1), (10, .int .i64 t19.2.1), (11, .bool t21.1), (12, .int .i64 t23.1), (13, .int .i64 t23.2.1)] (by kernel_rfl) fun a ha => ?_
      rcases Bool.eq_false_or_eq_true (t15.1 == (16 : Int)) with hb30 | hb30
      ·have ha := ha.lit hb30
       have H := ite_t hb30 H
       refine sgh ha 4 [2, 2, 3, 0] [(69, .bool (t17.2.1 == (0 : Int))), (7, .int .i64 t17.1), (10, .int .i64 t19.2.1), (11, .bool t21.1), (12, .int .i64 t23.1), (13, .int .i64 t23.2.1)] (by kernel_rfl) fun a ha => ?_
       rcases Bool.eq_false_or_eq_true (t17.2.1 == (0 : Int)) with hb31 | hb31
       ·have ha := ha.lit hb31
        have H := ite_t hb31 H
        refine sgh ha 4 [2, 2, 3, 0] [(73, .bool (t17.1 == (17 : Int))), (10, .int .i64 t19.2.1), (11, .bool t21.1), (12, .int .i64 t23.1), (13, .int .i64 t23.2.1)] (by kernel_rfl) fun a ha => ?_
        rcases Bool.eq_false_or_eq_true (t17.1 == (17 : Int)) with hb32 | hb32
        ·have ha := ha.lit hb32
         have H := ite_t hb32 H
         refine sgh ha 4 [2, 2, 3, 0] [(77, .bool (t19.2.1 == (6 : Int))), (11, .bool t21.1), (12, .int .i64 t23.1), (13, .int .i64 t23.2.1)] (by kernel_rfl) fun a ha => ?_
         rcases Bool.eq_false_or_eq_true (t19.2.1 == (6 : Int)) with hb33 | hb33
         ·have ha := ha.lit hb33
          have H := ite_t hb33 H
          refine sgh ha 3 [2, 3, 0] [(80, .bool t21.1), (12, .int .i64 t23.1), (13, .int .i64 t23.2.1)] (by kernel_rfl) fun a ha => ?_
          rcases Bool.eq_false_or_eq_true (t21.1) with hb34 | hb34
          ·have ha := ha.lit hb34
           have H := ite_t hb34 H
           refine sgh ha 4 [2, 2, 3, 0] [(84, .bool (t23.2.1 == (0 : Int))), (12, .int .i64 t23.1)] (by kernel_rfl) fun a ha => ?_
           rcases Bool.eq_false_or_eq_true (t23.2.1 == (0 : Int)) with hb35 | hb35
           ·have ha := ha.lit hb35
            have H := ite_t hb35 H
            refine sgh ha 4 [2, 2, 3, 0] [(0, .bool (t23.1 == (16 : Int)))] (by kernel_rfl) fun a ha => ?_
            obtain rfl := Option.some.inj H
            have hM : MS (M) w23 := (fun x h => hM.chg (Chg.refl [] _) x (mr (mr (h))))
            have hC := hC.trans (Chg.refl [] _) (Ok.nil _ _)
            exact J25 _ _ (ha.sel (by kernel_rfl)) hC hM
           ·have ha := ha.lit hb35
            have H := ite_f hb35 H
            refine sgh ha 4 [1, 1, 4, 0] [(0, .bool false)] (by kernel_rfl) fun a ha => ?_
            obtain rfl := Option.some.inj H
            have hM : MS (M) w23 := (fun x h => hM.chg (Chg.refl [] _) x (mr (mr (h))))
            have hC := hC.trans (Chg.refl [] _) (Ok.nil _ _)
            exact J25 _ _ (ha.sel (by kernel_rfl)) hC hM
          ·have ha := ha.lit hb34
           have H := ite_f hb34 H
           refine sgh ha 8 [1, 1, 4, 0, 1, 1, 4, 0] [(0, .bool false)] (by kernel_rfl) fun a ha => ?_
           obtain rfl := Option.some.inj H
           have hM : MS (M) w23 := (fun x h => hM.chg (Chg.refl [] _) x (mr (mr (h))))
           have hC := hC.trans (Chg.refl [] _) (Ok.nil _ _)
           exact J25 _ _ (ha.sel (by kernel_rfl)) hC hM
         ·have ha := ha.lit hb33
          have H := ite_f hb33 H
          refine sgh ha 11 [1, 4, 0, 1, 1, 4, 0, 1, 1, 4, 0] [(0, .bool false)] (by kernel_rfl) fun a ha => ?_
          obtain rfl := Option.some.inj H
          have hM : MS (M) w23 := (fun x h => hM.chg (Chg.refl [] _) x (mr (mr (h))))
          have hC := hC.trans (Chg.refl [] _) (Ok.nil _ _)
          exact J25 _ _ (ha.sel (by kernel_rfl)) hC hM
        ·have ha := ha.lit hb32
         have H := ite_f hb32 H
         refine sgh ha 15 [1, 1, 4, 0, 1, 4, 0, 1, 1, 4, 0, 1, 1, 4, 0] [(0, .bool false)] (by kernel_rfl) fun a ha => ?_
         obtain rfl := Option.some.inj H
         have hM : MS (M) w23 := (fun x h => hM.chg (Chg.refl [] _) x (mr (mr (h))))
         have hC := hC.trans (Chg.refl [] _) (Ok.nil _ _)
         exact J25 _ _ (ha.sel (by kernel_rfl)) hC hM
       ·have ha := ha.lit hb31
        have H := ite_f hb31 H
        refine sgh ha 19 [1, 1, 4, 0, 1, 1, 4, 0, 1, 4, 0, 1, 1, 4, 0, 1, 1, 4, 0] [(0, .bool false)] (by kernel_rfl) fun a ha => ?_
        obtain rfl := Option.some.inj H
        have hM : MS (M) w23 := (fun x h => hM.chg (Chg.refl [] _) x (mr (mr (h))))
        have hC := hC.trans (Chg.refl [] _) (Ok.nil _ _)
        exact J25 _ _ (ha.sel (by kernel_rfl)) hC hM
      ·have ha := ha.lit hb30
       have H := ite_f hb30 H
       refine sgh ha 23 [1, 1, 4, 0, 1, 1, 4, 0, 1, 1, 4, 0, 1, 4, 0, 1, 1, 4, 0, 1, 1, 4, 0] [(0, .bool false)] (by kernel_rfl) fun a ha => ?_
       obtain rfl := Option.some.inj H
       have hM : MS (M) w23 := (fun x h => hM.chg (Chg.refl [] _) x (mr (mr (h))))
       have hC := hC.trans (Chg.refl [] _) (Ok.nil _ _)
       exact J25 _ _ (ha.sel (by kernel_rfl)) hC hM
     ·have ha := ha.lit hb29
      have H := ite_f hb29 H
      refine sgh ha 27 [1, 1, 4, 0, 1, 1, 4, 0, 1, 1, 4, 0, 1, 1, 4, 0, 1, 4, 0, 1, 1, 4, 0, 1, 1, 4, 0] [(0, .bool false)] (by kernel_rfl) fun a ha => ?_
      obtain rfl := Option.some.inj H
      have hM : MS (M) w23 := (fun x h => hM.chg (Chg.refl [] _) x (mr (mr (h))))
      have hC := hC.trans (Chg.refl [] _) (Ok.nil _ _)
      exact J25 _ _ (ha.sel (by kernel_rfl)) hC hM
    ·have ha := ha.lit hb28
     have H := ite_f hb28 H
     refine sgh ha 31 [1, 1, 4, 0, 1, 1, 4, 0, 1, 1, 4, 0, 1, 1, 4, 0, 1, 1, 4, 0, 1, 4, 0, 1, 1, 4, 0, 1, 1, 4, 0] [(0, .bool false)] (by kernel_rfl) fun a ha => ?_
     obtain rfl := Option.some.inj H
     have hM : MS (M) w23 := (fun x h => hM.chg (Chg.refl [] _) x (mr (mr (h))))
     have hC := hC.trans (Chg.refl [] _) (Ok.nil _ _)
     exact J25 _ _ (ha.sel (by kernel_rfl)) hC hM
   ·have ha := ha.lit hb27
    have H := ite_f hb27 H
    refine sgh ha 35 [1, 1, 4, 0, 1, 1, 4, 0, 1, 1, 4, 0, 1, 1, 4, 0, 1, 1, 4, 0, 1, 1, 4, 0, 1, 4, 0, 1, 1, 4, 0, 1, 1, 4, 0] [(0, .bool false)] (by kernel_rfl) fun a ha => ?_
    obtain rfl := Option.some.inj H
    have hM : MS (M) w23 := (fun x h => hM.chg (Chg.refl [] _) x (mr (mr (h))))
    have hC := hC.trans (Chg.refl [] _) (Ok.nil _ _)
    exact J25 _ _ (ha.sel (by kernel_rfl)) hC hM
  ·have ha := ha.lit hb26
   have H := ite_f hb26 H
   refine sgh ha 40 [1, 1, 1, 4, 0, 1, 1, 4, 0, 1, 1, 4, 0, 1, 1, 4, 0, 1, 1, 4, 0, 1, 1, 4, 0, 1, 1, 4, 0, 1, 4, 0, 1, 1, 4, 0, 1, 1, 4, 0] [(0, .bool false)] (by kernel_rfl) fun a ha => ?_
   obtain rfl := Option.some.inj H
   have hM : MS (M) w23 := (fun x h => hM.chg (Chg.refl [] _) x (mr (mr (h))))
   have hC := hC.trans (Chg.refl [] _) (Ok.nil _ _)
   exact J25 _ _ (ha.sel (by kernel_rfl)) hC hM




def vinerylaw05_LabelOne.l0 (k : Nat) (a0 : Int) (a1 : Int) (a2 : List S_vinerylaw05_Act) (a3 : List UInt8) : Nat → PoolS → Int → Int → Option ((Bool) ⊕ (Unit))
  | 0, _, _, _ => none
  | kk + 1, x19, x20, x21 => (if (if (decide (x21 < (a2.length : Int))) = true then (decide (x21 < (100 : Int))) else false) = true then (if 0 ≤ x21 ∧ x21 < (a2.length : Int) then (if (((rd a2 x21).Do) == (0 : Int)) = true then (Pool_Take.f k x19 ((rd a2 x21).S)).bind fun t46 => (if (t46.2.1 == (0 : Int)) = true then (Pool_Owner.f t46.2.2 t46.1).bind fun t50 => (Pool_Of.f t46.2.2 ((rd a2 x21).S)).bind fun t52 => ((if (!t50.2) = true then some (true : Bool) else (if (!((bstr t50.1).toList == (bstr ((rd a2 x21).S)).toList)) = true then some (true : Bool) else (if (!t52.2) = true then some (true : Bool) else (if (t52.1 != t46.1) = true then some (true : Bool) else (if (decide (t46.1 < a0)) = true then some (true : Bool) else some (decide ((IntKind.i64.wrap (t46.1 - a0)) ≥ a1) : Bool))))))).bind fun s55 => (if s55 = true then some (.inl ((false : Bool))) else (if (if (if ((bstr ((rd a2 x21).S)).toList == (bstr a3).toList) = true then (x20 != (0 : Int)) else false) = true then (x20 != t46.1) else false) = true then some (.inl ((false : Bool))) else (if ((bstr ((rd a2 x21).S)).toList == (bstr a3).toList) = true then (Pool_Of.f t46.2.2 a3).bind fun t65 => ((if (!(t65.2 == (t46.1 != (0 : Int)))) = true then some (true : Bool) else (if (t65.1 != t46.1) = true then some (true : Bool) else (Pool_Count.f t46.2.2).bind fun t72 => some (decide (t72 > a1) : Bool)))).bind fun s67 => (if s67 = true then some (.inl ((false : Bool))) else vinerylaw05_LabelOne.l0 k a0 a1 a2 a3 kk t46.2.2 t46.1 (IntKind.i64.wrap (x21 + (1 : Int)))) else (Pool_Of.f t46.2.2 a3).bind fun t74 => ((if (!(t74.2 == (x20 != (0 : Int)))) = true then some (true : Bool) else (if (t74.1 != x20) = true then some (true : Bool) else (Pool_Count.f t46.2.2).bind fun t81 => some (decide (t81 > a1) : Bool)))).bind fun s76 => (if s76 = true then some (.inl ((false : Bool))) else vinerylaw05_LabelOne.l0 k a0 a1 a2 a3 kk t46.2.2 x20 (IntKind.i64.wrap (x21 + (1 : Int))))))) else (Pool_Of.f t46.2.2 a3).bind fun t88 => ((if (!(t88.2 == (x20 != (0 : Int)))) = true then some (true : Bool) else (if (t88.1 != x20) = true then some (true : Bool) else (Pool_Count.f t46.2.2).bind fun t95 => some (decide (t95 > a1) : Bool)))).bind fun s90 => (if s90 = true then some (.inl ((false : Bool))) else vinerylaw05_LabelOne.l0 k a0 a1 a2 a3 kk t46.2.2 x20 (IntKind.i64.wrap (x21 + (1 : Int))))) else (if (((rd a2 x21).Do) == (1 : Int)) = true then (Pool_Free.f x19 ((rd a2 x21).S)).bind fun t99 => (if ((bstr ((rd a2 x21).S)).toList == (bstr a3).toList) = true then (if (!(t99.1 == (x20 != (0 : Int)))) = true then some (.inl ((false : Bool))) else (Pool_Of.f t99.2 a3).bind fun t107 => ((if (!(t107.2 == ((0 : Int) != (0 : Int)))) = true then some (true : Bool) else (if (t107.1 != (0 : Int)) = true then some (true : Bool) else (Pool_Count.f t99.2).bind fun t114 => some (decide (t114 > a1) : Bool)))).bind fun s109 => (if s109 = true then some (.inl ((false : Bool))) else vinerylaw05_LabelOne.l0 k a0 a1 a2 a3 kk t99.2 (0 : Int) (IntKind.i64.wrap (x21 + (1 : Int))))) else (Pool_Of.f t99.2 a3).bind fun t116 => ((if (!(t116.2 == (x20 != (0 : Int)))) = true then some (true : Bool) else (if (t116.1 != x20) = true then some (true : Bool) else (Pool_Count.f t99.2).bind fun t123 => some (decide (t123 > a1) : Bool)))).bind fun s118 => (if s118 = true then some (.inl ((false : Bool))) else vinerylaw05_LabelOne.l0 k a0 a1 a2 a3 kk t99.2 x20 (IntKind.i64.wrap (x21 + (1 : Int))))) else (if (((rd a2 x21).Do) == (4 : Int)) = true then (Pool_Clear.f x19).bind fun t127 => (Pool_Of.f t127 a3).bind fun t129 => ((if (!(t129.2 == ((0 : Int) != (0 : Int)))) = true then some (true : Bool) else (if (t129.1 != (0 : Int)) = true then some (true : Bool) else (Pool_Count.f t127).bind fun t136 => some (decide (t136 > a1) : Bool)))).bind fun s131 => (if s131 = true then some (.inl ((false : Bool))) else vinerylaw05_LabelOne.l0 k a0 a1 a2 a3 kk t127 (0 : Int) (IntKind.i64.wrap (x21 + (1 : Int)))) else (Pool_Of.f x19 a3).bind fun t138 => ((if (!(t138.2 == (x20 != (0 : Int)))) = true then some (true : Bool) else (if (t138.1 != x20) = true then some (true : Bool) else (Pool_Count.f x19).bind fun t145 => some (decide (t145 > a1) : Bool)))).bind fun s140 => (if s140 = true then some (.inl ((false : Bool))) else vinerylaw05_LabelOne.l0 k a0 a1 a2 a3 kk x19 x20 (IntKind.i64.wrap (x21 + (1 : Int))))))) else none) else some (.inr (() : Unit)))
def vinerylaw05_LabelOne.f (k : Nat) (a0 : Int) (a1 : Int) (a2 : List S_vinerylaw05_Act) (a3 : List UInt8) : Option (Bool) := (vinerylaw05_small.f k ).bind fun t4 => (Pool_New.f a0 a1).bind fun t6 => om t6.1 (some ((if t4 = true then ((t6.2 != (0 : Int)) == true) else false : Bool))) fun x6 => (if (if (if (!t4) = true then true else (t6.2 != (0 : Int))) = true then true else false) = true then some ((if t4 = true then ((t6.2 != (0 : Int)) == false) else false : Bool)) else (vinerylaw05_LabelOne.l0 k a0 a1 a2 a3 k x6 (0 : Int) (0 : Int)).bind fun s18 => match s18 with | .inl r => some r | .inr s18' => some ((true : Bool)))
set_option maxRecDepth 100000 in
theorem vinerylaw05_LabelOne.walk (w : World) (M : List Nat) (hM : MS M w) (a0 : Int) (a1 : Int) (a2 : List S_vinerylaw05_Act) (ao1 : Option Addr) (cap1 : Nat) (f1 : RSl rS_vinerylaw05_Act 36 w M ao1 cap1 a2) (a3 : List UInt8) (k : Nat) (r : Bool) (H : vinerylaw05_LabelOne.f k a0 a1 a2 a3 = some r) :
    To Try.prog 5 [.int .i64 a0, .int .i64 a1, .slice ao1 a2.length cap1, .string (bstr a3)] w fun v w' => v = .bool r ∧ Chg [] w w' ∧ MS (M) w' := by
 unfold vinerylaw05_LabelOne.f at H
 refine ent Try.func5 rfl [(0, .int .i64 a0), (1, .int .i64 a1), (2, .slice ao1 a2.length cap1), (3, .string (bstr a3))] rfl (by rfl) fun a ha => ?_
 have hC : Chg [] w w := Chg.refl _ _
 refine wp_seq_k fun K2 hK2 => ?_
 refine wp_region_lit ?_
 refine seg ha 1 [(0, .int .i64 a0), (1, .int .i64 a1), (2, .slice ao1 a2.length cap1), (3, .string (bstr a3))] (by kernel_rfl) fun a ha => ?_
 refine hK2 _ _ ?_; try clear hK2 K2
 refine wp_seq_k fun K3 hK3 => ?_
 refine wp_region_lit ?_
 obtain ⟨t4, H4, H⟩ := bind_some H
 refine cl ha (by rfl) (by kernel_rfl) (by rfl) (by rfl) (by rfl) (vinerylaw05_small.walk w _ hM  k _ H4) ?_
 rintro _ w4 ⟨rfl, hc4, hMn⟩ a ha
 have o1 : Ok [] (M) w.heap.size := Ok.nil _ _
 have o2 : Ok (M) (M) w.heap.size := (Ok.refl _ _)
 have f1 := f1.chg hc4 o1 o2
 have hM : MS (M) w4 := (hM.chg hc4)
 have hC := hC.trans hc4 (Ok.nil _ _)
 refine seg ha 1 [(0, .int .i64 a0), (1, .int .i64 a1), (2, .slice ao1 a2.length cap1), (3, .string (bstr a3)), (9, .bool t4)] (by kernel_rfl) fun a ha => ?_
 refine hK3 _ _ ?_; try clear hK3 K3
 refine wp_seq_k fun K5 hK5 => ?_
 refine wp_region_lit ?_
 refine seg ha 2 [(0, .int .i64 a0), (1, .int .i64 a1), (2, .slice ao1 a2.length cap1), (3, .string (bstr a3)), (9, .bool t4), (26, .int .i64 a0), (27, .int .i64 a1)] (by kernel_rfl) fun a ha => ?_
 obtain ⟨t6, H6, H⟩ := bind_some H
 refine cl ha (by rfl) (by kernel_rfl) (by rfl) (by rfl) (by rfl) (Pool_New.walk w4 _ hM a0 a1 _ H6) ?_
 rintro _ w6 ⟨po6, gO6, L6, rfl, hn6, hs6, ne_i6, hc6, hMn⟩ a ha
 rcases om_cases H with ⟨he6, H⟩ | ⟨x6, he6, H⟩
 ·skip
  obtain ⟨rfl, rfl⟩ := hn6 he6
  have o1 : Ok [] (M) w4.heap.size := Ok.nil _ _
  have o2 : Ok (M) (M) w4.heap.size := (Ok.refl _ _)
  have f1 := f1.chg hc6 o1 o2
  have hM : MS (M) w6 := (hM.chg hc6)
  have hC := hC.trans hc6 (Ok.nil _ _)
  refine seg ha 5 [(0, .int .i64 a0), (1, .int .i64 a1), (2, .slice ao1 a2.length cap1), (3, .string (bstr a3)), (9, .bool t4), (10, .pointer none), (11, .int .i64 t6.2)] (by kernel_rfl) fun a ha => ?_
  refine hK5 _ _ ?_; try clear hK5 K5
  refine wp_seq_k fun K7 hK7 => ?_
  refine wp_seq_k fun K8 hK8 => ?_
  refine wp_region_lit ?_
  refine seg ha 10 [(0, .int .i64 a0), (1, .int .i64 a1), (2, .slice ao1 a2.length cap1), (3, .string (bstr a3)), (9, .bool t4), (10, .pointer none), (11, .int .i64 t6.2), (40, .bool (if (if (!t4) = true then true else (t6.2 != (0 : Int))) = true then true else true))] (by kernel_rfl) fun a ha => ?_
  refine hK8 _ _ ?_; try clear hK8 K8
  refine cnd ha rfl (fun _ => ?_) (fun h => by simp at h)
  refine wp_seq_k fun K10 hK10 => ?_
  refine wp_region_lit ?_
  refine seg ha 9 [(8, .bool (if t4 = true then ((t6.2 != (0 : Int)) == true) else false))] (by kernel_rfl) fun a ha => ?_
  refine hK10 _ _ ?_; try clear hK10 K10
  refine wp_ret ?_
  try simp only [Exit.then, Exit.inBlock]
  obtain rfl := Option.some.inj H
  refine rt1 ha rfl rfl ?_
  exact ⟨rfl, hC, hM⟩
 ·skip
  obtain ⟨rfl, fO6⟩ := hs6 x6 he6
  have o1 : Ok [] (M) w4.heap.size := Ok.nil _ _
  have o2 : Ok (L6 ++ (M)) (M) w4.heap.size := (Ok.app (fun x h => .inr (ne_i6 x h)) (Ok.refl _ _))
  have f1 := f1.chg hc6 o1 o2
  have p_i6_M : ∀ x ∈ L6, x ∉ M := fun x hx hy => absurd (hM x (hy)) (Nat.not_lt.2 (ne_i6 x hx))
  have e_i6 : ∀ x ∈ L6, w.heap.size ≤ x := fun x hx => Nat.le_trans hC.size (ne_i6 x hx)
  have hM : MS (L6 ++ (M)) w6 := (MS.app (fun x h => hMn x (ml h)) (hM.chg hc6))
  have hC := hC.trans hc6 (Ok.nil _ _)
  refine seg ha 5 [(0, .int .i64 a0), (1, .int .i64 a1), (2, .slice ao1 a2.length cap1), (3, .string (bstr a3)), (9, .bool t4), (10, .pointer (some ⟨gO6, 0, none⟩)), (11, .int .i64 t6.2)] (by kernel_rfl) fun a ha => ?_
  refine hK5 _ _ ?_; try clear hK5 K5
  refine wp_seq_k fun K11 hK11 => ?_
  refine wp_seq_k fun K12 hK12 => ?_
  refine wp_region_lit ?_
  refine seg ha 10 [(0, .int .i64 a0), (1, .int .i64 a1), (2, .slice ao1 a2.length cap1), (3, .string (bstr a3)), (9, .bool t4), (10, .pointer (some ⟨gO6, 0, none⟩)), (11, .int .i64 t6.2), (40, .bool (if (if (!t4) = true then true else (t6.2 != (0 : Int))) = true then true else false))] (by kernel_rfl) fun a ha => ?_
  refine hK12 _ _ ?_; try clear hK12 K12
  refine cnd ha rfl (fun hc13 => ?_) (fun hc13 => ?_)
  ·have H := ite_t hc13 H
   refine wp_seq_k fun K14 hK14 => ?_
   refine wp_region_lit ?_
   refine seg ha 9 [(8, .bool (if t4 = true then ((t6.2 != (0 : Int)) == false) else false))] (by kernel_rfl) fun a ha => ?_
   refine hK14 _ _ ?_; try clear hK14 K14
   refine wp_ret ?_
   try simp only [Exit.then, Exit.inBlock]
   have hM : MS (M) w6 := (fun x h => hM.chg (Chg.refl [] _) x (mr (h)))
   have hC := hC.trans (Chg.refl [] _) (Ok.nil _ _)
   obtain rfl := Option.some.inj H
   refine rt1 ha rfl rfl ?_
   exact ⟨rfl, hC, hM⟩
  ·have H := ite_f hc13 H
   refine wp_skip ?_
   refine hK11 _ _ ?_; try clear hK11 K11
   refine wp_seq_k fun K15 hK15 => ?_
   refine wp_region_lit ?_
   refine seg ha 1 [(0, .int .i64 a0), (1, .int .i64 a1), (2, .slice ao1 a2.length cap1), (3, .string (bstr a3)), (10, .pointer (some ⟨gO6, 0, none⟩)), (12, .int .i64 (0 : Int))] (by kernel_rfl) fun a ha => ?_
   refine hK15 _ _ ?_; try clear hK15 K15
   refine wp_seq_k fun K16 hK16 => ?_
   refine wp_seq_k fun K17 hK17 => ?_
   refine wp_region_lit ?_
   refine seg ha 1 [(0, .int .i64 a0), (1, .int .i64 a1), (2, .slice ao1 a2.length cap1), (3, .string (bstr a3)), (10, .pointer (some ⟨gO6, 0, none⟩)), (12, .int .i64 (0 : Int)), (13, .int .i64 (0 : Int))] (by kernel_rfl) fun a ha => ?_
   refine hK17 _ _ ?_; try clear hK17 K17
   refine wp_block ?_
   obtain ⟨s18, H18, H⟩ := bind_some H
   have J18 : ∀ s18' (a : Act) (wx18 : World), s18 = .inr s18' → Has a Try.f5.ntmps [] → (Chg [] w wx18) → (MS (M) wx18) → K16 a wx18 := by
    intro s18' a wx18 hs ha hC hM
    subst hs
    refine hK16 _ _ ?_; try clear hK16 K16
    refine wp_seq_k fun K22 hK22 => ?_
    refine wp_region_lit ?_
    refine seg ha 1 [(8, .bool true)] (by kernel_rfl) fun a ha => ?_
    refine hK22 _ _ ?_; try clear hK22 K22
    refine wp_ret ?_
    try simp only [Exit.then, Exit.inBlock]
    obtain rfl := Option.some.inj H
    refine rt1 ha rfl rfl ?_
    exact ⟨rfl, hC, hM⟩
   have Hc18 := H
   have H := H18
   refine wp_loop_ghost (fun kk a w18 => ∃ (x19 : PoolS) (x20 : Int) (x21 : Int), vinerylaw05_LabelOne.l0 k a0 a1 a2 a3 kk x19 x20 x21 = some s18 ∧ Has a Try.f5.ntmps [(0, .int .i64 a0), (1, .int .i64 a1), (2, .slice ao1 a2.length cap1), (3, .string (bstr a3)), (10, .pointer (some ⟨gO6, 0, none⟩)), (12, .int .i64 x20), (13, .int .i64 x21)] ∧ (RSl rS_vinerylaw05_Act 36 w18 (L6 ++ (M)) ao1 cap1 a2) ∧ (PoolAt w18 gO6 L6 x19) ∧ (Chg [] w w18) ∧ (MS (L6 ++ (M)) w18)) k ?_ ?_
   ·skip
    exact ⟨x6, (0 : Int), (0 : Int), H, (ha.sel (by kernel_rfl)), f1, fO6, hC, hM⟩
   ·rintro kk a w18 ⟨x19, x20, x21, H, ha, f1, fO6, hC, hM⟩
    obtain _ | kk := kk
    ·exact nomatch (show none = some _ from H)
    rw [vinerylaw05_LabelOne.l0] at H
    refine wp_seq_k fun K23 hK23 => ?_
    refine wp_seq_k fun K24 hK24 => ?_
    refine wp_region_lit ?_
    refine seg ha 8 [(0, .int .i64 a0), (1, .int .i64 a1), (2, .slice ao1 a2.length cap1), (3, .string (bstr a3)), (10, .pointer (some ⟨gO6, 0, none⟩)), (12, .int .i64 x20), (13, .int .i64 x21), (56, .bool (if (decide (x21 < (a2.length : Int))) = true then (decide (x21 < (100 : Int))) else false))] (by kernel_rfl) fun a ha => ?_
    refine hK24 _ _ ?_; try clear hK24 K24
    refine cnd ha rfl (fun hc25 => ?_) (fun hc25 => ?_)
    ·have H := ite_t hc25 H
     refine wp_skip ?_
     refine hK23 _ _ ?_; try clear hK23 K23
     refine wp_seq_k fun K26 hK26 => ?_
     refine wp_block ?_
     refine wp_seq_k fun K27 hK27 => ?_
     refine wp_region_lit ?_
     refine seg ha 2 [(0, .int .i64 a0), (1, .int .i64 a1), (2, .slice ao1 a2.length cap1), (3, .string (bstr a3)), (10, .pointer (some ⟨gO6, 0, none⟩)), (12, .int .i64 x20), (13, .int .i64 x21), (59, .slice ao1 a2.length cap1), (60, .int .i64 x21)] (by kernel_rfl) fun a ha => ?_
     obtain ⟨⟨hx28, hx28'⟩, H⟩ := ite_some H
     refine ix (r := rS_vinerylaw05_Act) ha (by kernel_rfl) (by kernel_rfl) rfl rfl rfl rfl rfl f1 hx28 hx28' fun a ge29 oe30 cs31 hn34 hR32 hE33 ha => ?_
     rw [rd_get] at hR32
     obtain rfl := rS_vinerylaw05_Act.open hR32
     refine ldA (cs := (cS_vinerylaw05_Act (rd a2 x21))) ha rfl (by kernel_rfl) rfl rfl rfl (cells_sub hE33 (all := (cS_vinerylaw05_Act (rd a2 x21))) [] [] (by kernel_rfl)) fun a ha => ?_
     refine al (cs := (cS_vinerylaw05_Act (⟨(0 : Int), ([] : List UInt8), (0 : Int)⟩ : S_vinerylaw05_Act))) (z := .agg (cS_vinerylaw05_Act (⟨(0 : Int), ([] : List UInt8), (0 : Int)⟩ : S_vinerylaw05_Act)).toArray) ha (fun w => by kernel_rfl) rfl rfl rfl rfl fun a w35 g36 hN37 ha => ?_
     have o1 : Ok [] (L6 ++ (M)) w18.heap.size := Ok.nil _ _
     have o2 : Ok ([g36] ++ (L6 ++ (M))) (L6 ++ (M)) w18.heap.size := (Ok.app (hN37.ok _) (Ok.refl _ _))
     have f1 := f1.chg hN37.chg o1 o2
     have fO6 := fO6.chg hN37.chg (fun _ _ h => nomatch h)
     have p_i38_i6 : ∀ x ∈ [g36], x ∉ L6 := fun x hx hy => absurd (hM x (ml hy)) (Nat.not_lt.2 ((hN37.ge1) x hx))
     have p_i38_M : ∀ x ∈ [g36], x ∉ M := fun x hx hy => absurd (hM x (mr (hy))) (Nat.not_lt.2 ((hN37.ge1) x hx))
     have e_i38 : ∀ x ∈ [g36], w.heap.size ≤ x := fun x hx => Nat.le_trans hC.size ((hN37.ge1) x hx)
     have hM : MS ([g36] ++ (L6 ++ (M))) w35 := (MS.app hN37.ms (hM.chg hN37.chg))
     have hC := hC.trans hN37.chg (Ok.nil _ _)
     have hBg36 : Box w35 g36 (cS_vinerylaw05_Act (⟨(0 : Int), ([] : List UInt8), (0 : Int)⟩ : S_vinerylaw05_Act)) := hN37.box
     refine stA (l := (cS_vinerylaw05_Act (rd a2 x21))) ha rfl rfl rfl (by kernel_rfl) rfl rfl hBg36 rfl fun a w39 ha hb2 hc40 _ => ?_
     have o1 : Ok [g36] ([g36] ++ (L6 ++ (M))) w35.heap.size := (fun _ h => .inl (ml h))
     have o2 : Ok ([g36] ++ (L6 ++ (M))) ([g36] ++ (L6 ++ (M))) w35.heap.size := (Ok.refl _ _)
     have f1 := f1.chg hc40 o1 o2
     have fO6 := fO6.chg hc40 (fun x (hx : x ∈ L6) (hy : x ∈ [g36]) => p_i38_i6 x hy hx)
     have hM : MS ([g36] ++ (L6 ++ (M))) w39 := (hM.chg hc40)
     have hC := hC.trans hc40 (fun x h => .inr (e_i38 x h))
     have hBg36 : Box w39 g36 (cS_vinerylaw05_Act (rd a2 x21)) := hb2
     refine hK27 _ _ ?_; try clear hK27 K27
     refine wp_seq_k fun K41 hK41 => ?_
     refine wp_seq_k fun K42 hK42 => ?_
     refine wp_region_lit ?_
     refine seg ha 1 [(0, .int .i64 a0), (1, .int .i64 a1), (2, .slice ao1 a2.length cap1), (3, .string (bstr a3)), (10, .pointer (some ⟨gO6, 0, none⟩)), (12, .int .i64 x20), (13, .int .i64 x21), (14, .pointer (some ⟨g36, 0, none⟩)), (63, .pointer (some ⟨g36, 0, none⟩))] (by kernel_rfl) fun a ha => ?_
     refine ld (v := .int .i64 ((rd a2 x21).Do)) ha rfl (by kernel_rfl) rfl rfl rfl (hBg36.cell' (o := 0) rfl (by kernel_rfl)) fun a ha => ?_
     refine hK42 _ _ ?_; try clear hK42 K42
     refine wp_block ?_
     refine wp_seq_k fun K43 hK43 => ?_
     refine wp_region_lit ?_
     refine seg ha 2 [(0, .int .i64 a0), (1, .int .i64 a1), (2, .slice ao1 a2.length cap1), (3, .string (bstr a3)), (10, .pointer (some ⟨gO6, 0, none⟩)), (12, .int .i64 x20), (13, .int .i64 x21), (14, .pointer (some ⟨g36, 0, none⟩)), (64, .int .i64 ((rd a2 x21).Do)), (65, .bool (((rd a2 x21).Do) == (0 : Int)))] (by kernel_rfl) fun a ha => ?_
     refine hK43 _ _ ?_; try clear hK43 K43
     refine cnd ha rfl (fun hc44 => ?_) (fun hc44 => ?_)
     ·have H := ite_t hc44 H
      refine wp_seq_k fun K45 hK45 => ?_
      refine wp_region_lit ?_
      refine seg ha 2 [(0, .int .i64 a0), (1, .int .i64 a1), (2, .slice ao1 a2.length cap1), (3, .string (bstr a3)), (10, .pointer (some ⟨gO6, 0, none⟩)), (12, .int .i64 x20), (13, .int .i64 x21), (14, .pointer (some ⟨g36, 0, none⟩)), (68, .pointer (some ⟨gO6, 0, none⟩)), (69, .pointer (some ⟨g36, 1, none⟩))] (by kernel_rfl) fun a ha => ?_
      refine ld (v := .string (bstr ((rd a2 x21).S))) ha rfl (by kernel_rfl) rfl rfl rfl (hBg36.cell' (o := 1) rfl (by kernel_rfl)) fun a ha => ?_
      obtain ⟨t46, H46, H⟩ := bind_some H
      refine cl ha (by rfl) (by kernel_rfl) (by rfl) (by rfl) (by rfl) (Pool_Take.walk w39 _ hM gO6 L6 x19 fO6 (fun _ h => mr (ml h)) ((rd a2 x21).S) k _ H46) ?_
      rintro _ w46 ⟨rfl, nf46, hc46, hMn⟩ a ha
      have o1 : Ok L6 ([g36] ++ (L6 ++ (M))) w39.heap.size := (fun _ h => .inl (mr (ml h)))
      have o2 : Ok ([g36] ++ (L6 ++ (M))) ([g36] ++ (L6 ++ (M))) w39.heap.size := (Ok.refl _ _)
      have f1 := f1.chg hc46 o1 o2
      have hBg36 := hBg36.chg hc46 (p_i38_i6 g36 (by simp))
      have hM : MS ([g36] ++ (L6 ++ (M))) w46 := (hM.chg hc46)
      have hC := hC.trans hc46 (fun x h => .inr (e_i6 x h))
      have fO6 := nf46
      refine seg ha 5 [(0, .int .i64 a0), (1, .int .i64 a1), (2, .slice ao1 a2.length cap1), (3, .string (bstr a3)), (10, .pointer (some ⟨gO6, 0, none⟩)), (12, .int .i64 x20), (13, .int .i64 x21), (14, .pointer (some ⟨g36, 0, none⟩)), (15, .int .i64 t46.1), (16, .int .i64 t46.2.1)] (by kernel_rfl) fun a ha => ?_
      refine hK45 _ _ ?_; try clear hK45 K45
      refine wp_seq_k fun K47 hK47 => ?_
      refine wp_region_lit ?_
      refine seg ha 2 [(0, .int .i64 a0), (1, .int .i64 a1), (2, .slice ao1 a2.length cap1), (3, .string (bstr a3)), (10, .pointer (some ⟨gO6, 0, none⟩)), (12, .int .i64 x20), (13, .int .i64 x21), (14, .pointer (some ⟨g36, 0, none⟩)), (15, .int .i64 t46.1), (75, .bool (t46.2.1 == (0 : Int)))] (by kernel_rfl) fun a ha => ?_
      refine hK47 _ _ ?_; try clear hK47 K47
      refine cnd ha rfl (fun hc48 => ?_) (fun hc48 => ?_)
      ·have H := ite_t hc48 H
       refine wp_seq_k fun K49 hK49 => ?_
       refine wp_region_lit ?_
       refine seg ha 2 [(0, .int .i64 a0), (1, .int .i64 a1), (2, .slice ao1 a2.length cap1), (3, .string (bstr a3)), (10, .pointer (some ⟨gO6, 0, none⟩)), (12, .int .i64 x20), (13, .int .i64 x21), (14, .pointer (some ⟨g36, 0, none⟩)), (15, .int .i64 t46.1), (77, .pointer (some ⟨gO6, 0, none⟩)), (78, .int .i64 t46.1)] (by kernel_rfl) fun a ha => ?_
       obtain ⟨t50, H50, H⟩ := bind_some H
       refine cl ha (by rfl) (by kernel_rfl) (by rfl) (by rfl) (by rfl) (Pool_Owner.walk w46 _ hM gO6 L6 t46.2.2 fO6 (fun _ h => mr (ml h)) t46.1 _ H50) ?_
       rintro _ w50 ⟨rfl, hc50, hMn⟩ a ha
       have o1 : Ok [] ([g36] ++ (L6 ++ (M))) w46.heap.size := Ok.nil _ _
       have o2 : Ok ([g36] ++ (L6 ++ (M))) ([g36] ++ (L6 ++ (M))) w46.heap.size := (Ok.refl _ _)
       have f1 := f1.chg hc50 o1 o2
       have hBg36 := hBg36.chg hc50 (fun h => nomatch h)
       have fO6 := fO6.chg hc50 (fun _ _ h => nomatch h)
       have hM : MS ([g36] ++ (L6 ++ (M))) w50 := (hM.chg hc50)
       have hC := hC.trans hc50 (Ok.nil _ _)
       refine seg ha 5 [(0, .int .i64 a0), (1, .int .i64 a1), (2, .slice ao1 a2.length cap1), (3, .string (bstr a3)), (10, .pointer (some ⟨gO6, 0, none⟩)), (12, .int .i64 x20), (13, .int .i64 x21), (14, .pointer (some ⟨g36, 0, none⟩)), (15, .int .i64 t46.1), (17, .string (bstr t50.1)), (18, .bool t50.2)] (by kernel_rfl) fun a ha => ?_
       refine hK49 _ _ ?_; try clear hK49 K49
       refine wp_seq_k fun K51 hK51 => ?_
       refine wp_region_lit ?_
       refine seg ha 2 [(0, .int .i64 a0), (1, .int .i64 a1), (2, .slice ao1 a2.length cap1), (3, .string (bstr a3)), (10, .pointer (some ⟨gO6, 0, none⟩)), (12, .int .i64 x20), (13, .int .i64 x21), (14, .pointer (some ⟨g36, 0, none⟩)), (15, .int .i64 t46.1), (17, .string (bstr t50.1)), (18, .bool t50.2), (83, .pointer (some ⟨gO6, 0, none⟩)), (84, .pointer (some ⟨g36, 1, none⟩))] (by kernel_rfl) fun a ha => ?_
       refine ld (v := .string (bstr ((rd a2 x21).S))) ha rfl (by kernel_rfl) rfl rfl rfl (hBg36.cell' (o := 1) rfl (by kernel_rfl)) fun a ha => ?_
       obtain ⟨t52, H52, H⟩ := bind_some H
       refine cl ha (by rfl) (by kernel_rfl) (by rfl) (by rfl) (by rfl) (Pool_Of.walk w50 _ hM gO6 L6 t46.2.2 fO6 (fun _ h => mr (ml h)) ((rd a2 x21).S) _ H52) ?_
       rintro _ w52 ⟨rfl, hc52, hMn⟩ a ha
       have o1 : Ok [] ([g36] ++ (L6 ++ (M))) w50.heap.size := Ok.nil _ _
       have o2 : Ok ([g36] ++ (L6 ++ (M))) ([g36] ++ (L6 ++ (M))) w50.heap.size := (Ok.refl _ _)
       have f1 := f1.chg hc52 o1 o2
       have hBg36 := hBg36.chg hc52 (fun h => nomatch h)
       have fO6 := fO6.chg hc52 (fun _ _ h => nomatch h)
       have hM : MS ([g36] ++ (L6 ++ (M))) w52 := (hM.chg hc52)
       have hC := hC.trans hc52 (Ok.nil _ _)
       refine seg ha 5 [(0, .int .i64 a0), (1, .int .i64 a1), (2, .slice ao1 a2.length cap1), (3, .string (bstr a3)), (10, .pointer (some ⟨gO6, 0, none⟩)), (12, .int .i64 x20), (13, .int .i64 x21), (14, .pointer (some ⟨g36, 0, none⟩)), (15, .int .i64 t46.1), (17, .string (bstr t50.1)), (18, .bool t50.2), (19, .int .i64 t52.1), (20, .bool t52.2)] (by kernel_rfl) fun a ha => ?_
       refine hK51 _ _ ?_; try clear hK51 K51
       refine wp_seq_k fun K53 hK53 => ?_
       refine wp_seq_k fun K54 hK54 => ?_
       refine wp_region_lit ?_
       obtain ⟨s55, H55, H⟩ := bind_some H
       have J55 : ∀ (a : Act) (w55 : World), Has a Try.f5.ntmps [(0, .int .i64 a0), (1, .int .i64 a1), (2, .slice ao1 a2.length cap1), (3, .string (bstr a3)), (10, .pointer (some ⟨gO6, 0, none⟩)), (12, .int .i64 x20), (13, .int .i64 x21), (14, .pointer (some ⟨g36, 0, none⟩)), (15, .int .i64 t46.1), (117, .bool s55)] → (RSl rS_vinerylaw05_Act 36 w55 ([g36] ++ (L6 ++ (M))) ao1 cap1 a2) → (Box w55 g36 (cS_vinerylaw05_Act (rd a2 x21))) → (PoolAt w55 gO6 L6 t46.2.2) → (Chg [] w w55) → (MS ([g36] ++ (L6 ++ (M))) w55) → K54 a w55 := by
        intro a w55 ha f1 hBg36 fO6 hC hM
        refine hK54 _ _ ?_; try clear hK54 K54
        refine cnd ha rfl (fun hc56 => ?_) (fun hc56 => ?_)
        ·have H := ite_t hc56 H
         refine wp_seq_k fun K57 hK57 => ?_
         refine wp_region_lit ?_
         refine seg ha 1 [(8, .bool false)] (by kernel_rfl) fun a ha => ?_
         refine hK57 _ _ ?_; try clear hK57 K57
         refine wp_ret ?_
         try simp only [Exit.then, Exit.inBlock]
         have hBg36 := hBg36.chg (Chg.refl [] _) (fun h => nomatch h)
         have hM : MS (M) w55 := (fun x h => hM.chg (Chg.refl [] _) x (mr (mr (h))))
         have hC := hC.trans (Chg.refl [] _) (Ok.nil _ _)
         obtain rfl := Option.some.inj H
         have H := (show some _ = some _ from Hc18)
         obtain rfl := Option.some.inj H
         refine rt1 ha rfl rfl ?_
         exact ⟨rfl, hC, hM⟩
        ·have H := ite_f hc56 H
         refine wp_skip ?_
         refine hK53 _ _ ?_; try clear hK53 K53
         refine wp_seq_k fun K58 hK58 => ?_
         refine wp_seq_k fun K59 hK59 => ?_
         refine wp_region_lit ?_
         refine seg ha 1 [(0, .int .i64 a0), (1, .int .i64 a1), (2, .slice ao1 a2.length cap1), (3, .string (bstr a3)), (10, .pointer (some ⟨gO6, 0, none⟩)), (12, .int .i64 x20), (13, .int .i64 x21), (14, .pointer (some ⟨g36, 0, none⟩)), (15, .int .i64 t46.1), (118, .pointer (some ⟨g36, 1, none⟩))] (by kernel_rfl) fun a ha => ?_
         refine ld (v := .string (bstr ((rd a2 x21).S))) ha rfl (by kernel_rfl) rfl rfl rfl (hBg36.cell' (o := 1) rfl (by kernel_rfl)) fun a ha => ?_
         refine seg ha 11 [(0, .int .i64 a0), (1, .int .i64 a1), (2, .slice ao1 a2.length cap1), (3, .string (bstr a3)), (10, .pointer (some ⟨gO6, 0, none⟩)), (12, .int .i64 x20), (13, .int .i64 x21), (14, .pointer (some ⟨g36, 0, none⟩)), (15, .int .i64 t46.1), (130, .bool (if (if ((bstr ((rd a2 x21).S)).toList == (bstr a3).toList) = true then (x20 != (0 : Int)) else false) = true then (x20 != t46.1) else false))] (by kernel_rfl) fun a ha => ?_
         refine hK59 _ _ ?_; try clear hK59 K59
         refine cnd ha rfl (fun hc60 => ?_) (fun hc60 => ?_)
         ·have H := ite_t hc60 H
          refine wp_seq_k fun K61 hK61 => ?_
          refine wp_region_lit ?_
          refine seg ha 1 [(8, .bool false)] (by kernel_rfl) fun a ha => ?_
          refine hK61 _ _ ?_; try clear hK61 K61
          refine wp_ret ?_
          try simp only [Exit.then, Exit.inBlock]
          have hBg36 := hBg36.chg (Chg.refl [] _) (fun h => nomatch h)
          have hM : MS (M) w55 := (fun x h => hM.chg (Chg.refl [] _) x (mr (mr (h))))
          have hC := hC.trans (Chg.refl [] _) (Ok.nil _ _)
          obtain rfl := Option.some.inj H
          have H := (show some _ = some _ from Hc18)
          obtain rfl := Option.some.inj H
          refine rt1 ha rfl rfl ?_
          exact ⟨rfl, hC, hM⟩
         ·have H := ite_f hc60 H
          refine wp_skip ?_
          refine hK58 _ _ ?_; try clear hK58 K58
          refine wp_seq_k fun K62 hK62 => ?_
          refine wp_region_lit ?_
          refine seg ha 1 [(0, .int .i64 a0), (1, .int .i64 a1), (2, .slice ao1 a2.length cap1), (3, .string (bstr a3)), (10, .pointer (some ⟨gO6, 0, none⟩)), (12, .int .i64 x20), (13, .int .i64 x21), (15, .int .i64 t46.1), (131, .pointer (some ⟨g36, 1, none⟩))] (by kernel_rfl) fun a ha => ?_
          refine ld (v := .string (bstr ((rd a2 x21).S))) ha rfl (by kernel_rfl) rfl rfl rfl (hBg36.cell' (o := 1) rfl (by kernel_rfl)) fun a ha => ?_
          refine seg ha 2 [(0, .int .i64 a0), (1, .int .i64 a1), (2, .slice ao1 a2.length cap1), (3, .string (bstr a3)), (10, .pointer (some ⟨gO6, 0, none⟩)), (12, .int .i64 x20), (13, .int .i64 x21), (15, .int .i64 t46.1), (134, .bool ((bstr ((rd a2 x21).S)).toList == (bstr a3).toList))] (by kernel_rfl) fun a ha => ?_
          refine hK62 _ _ ?_; try clear hK62 K62
          refine cnd ha rfl (fun hc63 => ?_) (fun hc63 => ?_)
          ·have H := ite_t hc63 H
           refine wp_region_lit ?_
           refine seg ha 2 [(0, .int .i64 a0), (1, .int .i64 a1), (2, .slice ao1 a2.length cap1), (3, .string (bstr a3)), (10, .pointer (some ⟨gO6, 0, none⟩)), (12, .int .i64 t46.1), (13, .int .i64 x21)] (by kernel_rfl) fun a ha => ?_
           refine hK41 _ _ ?_; try clear hK41 K41
           refine wp_seq_k fun K64 hK64 => ?_
           refine wp_region_lit ?_
           refine seg ha 2 [(0, .int .i64 a0), (1, .int .i64 a1), (2, .slice ao1 a2.length cap1), (3, .string (bstr a3)), (10, .pointer (some ⟨gO6, 0, none⟩)), (12, .int .i64 t46.1), (13, .int .i64 x21), (155, .pointer (some ⟨gO6, 0, none⟩)), (156, .string (bstr a3))] (by kernel_rfl) fun a ha => ?_
           obtain ⟨t65, H65, H⟩ := bind_some H
           refine cl ha (by rfl) (by kernel_rfl) (by rfl) (by rfl) (by rfl) (Pool_Of.walk w55 _ hM gO6 L6 t46.2.2 fO6 (fun _ h => mr (ml h)) a3 _ H65) ?_
           rintro _ w65 ⟨rfl, hc65, hMn⟩ a ha
           have o1 : Ok [] ([g36] ++ (L6 ++ (M))) w55.heap.size := Ok.nil _ _
           have o2 : Ok ([g36] ++ (L6 ++ (M))) ([g36] ++ (L6 ++ (M))) w55.heap.size := (Ok.refl _ _)
           have f1 := f1.chg hc65 o1 o2
           have hBg36 := hBg36.chg hc65 (fun h => nomatch h)
           have fO6 := fO6.chg hc65 (fun _ _ h => nomatch h)
           have hM : MS ([g36] ++ (L6 ++ (M))) w65 := (hM.chg hc65)
           have hC := hC.trans hc65 (Ok.nil _ _)
           refine seg ha 5 [(0, .int .i64 a0), (1, .int .i64 a1), (2, .slice ao1 a2.length cap1), (3, .string (bstr a3)), (10, .pointer (some ⟨gO6, 0, none⟩)), (12, .int .i64 t46.1), (13, .int .i64 x21), (22, .int .i64 t65.1), (23, .bool t65.2)] (by kernel_rfl) fun a ha => ?_
           refine hK64 _ _ ?_; try clear hK64 K64
           refine wp_seq_k fun K66 hK66 => ?_
           refine wp_region_lit ?_
           obtain ⟨s67, H67, H⟩ := bind_some H
           have J67 : ∀ (a : Act) (w67 : World), Has a Try.f5.ntmps [(0, .int .i64 a0), (1, .int .i64 a1), (2, .slice ao1 a2.length cap1), (3, .string (bstr a3)), (10, .pointer (some ⟨gO6, 0, none⟩)), (12, .int .i64 t46.1), (13, .int .i64 x21), (174, .bool s67)] → (RSl rS_vinerylaw05_Act 36 w67 ([g36] ++ (L6 ++ (M))) ao1 cap1 a2) → (Box w67 g36 (cS_vinerylaw05_Act (rd a2 x21))) → (PoolAt w67 gO6 L6 t46.2.2) → (Chg [] w w67) → (MS ([g36] ++ (L6 ++ (M))) w67) → K66 a w67 := by
            intro a w67 ha f1 hBg36 fO6 hC hM
            refine hK66 _ _ ?_; try clear hK66 K66
            refine cnd ha rfl (fun hc68 => ?_) (fun hc68 => ?_)
            ·have H := ite_t hc68 H
             refine wp_seq_k fun K69 hK69 => ?_
             refine wp_region_lit ?_
             refine seg ha 1 [(8, .bool false)] (by kernel_rfl) fun a ha => ?_
             refine hK69 _ _ ?_; try clear hK69 K69
             refine wp_ret ?_
             try simp only [Exit.then, Exit.inBlock]
             have hBg36 := hBg36.chg (Chg.refl [] _) (fun h => nomatch h)
             have hM : MS (M) w67 := (fun x h => hM.chg (Chg.refl [] _) x (mr (mr (h))))
             have hC := hC.trans (Chg.refl [] _) (Ok.nil _ _)
             obtain rfl := Option.some.inj H
             have H := (show some _ = some _ from Hc18)
             obtain rfl := Option.some.inj H
             refine rt1 ha rfl rfl ?_
             exact ⟨rfl, hC, hM⟩
            ·have H := ite_f hc68 H
             refine wp_skip ?_
             refine hK26 _ _ ?_; try clear hK26 K26
             refine wp_region_lit ?_
             refine seg ha 3 [(0, .int .i64 a0), (1, .int .i64 a1), (2, .slice ao1 a2.length cap1), (3, .string (bstr a3)), (10, .pointer (some ⟨gO6, 0, none⟩)), (12, .int .i64 t46.1), (13, .int .i64 (IntKind.i64.wrap (x21 + (1 : Int))))] (by kernel_rfl) fun a ha => ?_
             have o1 : Ok [] ([g36] ++ (L6 ++ (M))) w67.heap.size := Ok.nil _ _
             have o2 : Ok (L6 ++ (M)) ([g36] ++ (L6 ++ (M))) w67.heap.size := (fun _ h => .inl (mr (h)))
             have f1 := f1.chg (Chg.refl [] _) o1 o2
             have hBg36 := hBg36.chg (Chg.refl [] _) (fun h => nomatch h)
             have fO6 := fO6.chg (Chg.refl [] _) (fun _ _ h => nomatch h)
             have hM : MS (L6 ++ (M)) w67 := (fun x h => hM.chg (Chg.refl [] _) x (mr (h)))
             have hC := hC.trans (Chg.refl [] _) (Ok.nil _ _)
             exact ⟨kk, Nat.lt_succ_self _, ⟨t46.2.2, t46.1, IntKind.i64.wrap (x21 + (1 : Int)), H, (ha.sel (by kernel_rfl)), f1, fO6, hC, hM⟩⟩
           have H := H67
           refine seg ha 5 [(164, .bool (!(t65.2 == (t46.1 != (0 : Int))))), (0, .int .i64 a0), (1, .int .i64 a1), (2, .slice ao1 a2.length cap1), (3, .string (bstr a3)), (10, .pointer (some ⟨gO6, 0, none⟩)), (12, .int .i64 t46.1), (13, .int .i64 x21), (22, .int .i64 t65.1)] (by kernel_rfl) fun a ha => ?_
           rcases Bool.eq_false_or_eq_true (!(t65.2 == (t46.1 != (0 : Int)))) with hb70 | hb70
           ·have ha := ha.lit hb70
            have H := ite_t hb70 H
            refine sgh ha 10 [1, 1, 1, 3, 0, 1, 1, 1, 1, 3] [(0, .int .i64 a0), (1, .int .i64 a1), (2, .slice ao1 a2.length cap1), (3, .string (bstr a3)), (10, .pointer (some ⟨gO6, 0, none⟩)), (12, .int .i64 t46.1), (13, .int .i64 x21), (174, .bool true)] (by kernel_rfl) fun a ha => ?_
            obtain rfl := Option.some.inj H
            exact J67 _ _ (ha.sel (by kernel_rfl)) f1 hBg36 fO6 hC hM
           ·have ha := ha.lit hb70
            have H := ite_f hb70 H
            refine sgh ha 5 [2, 2, 2, 4, 0] [(169, .bool (t65.1 != t46.1)), (0, .int .i64 a0), (1, .int .i64 a1), (2, .slice ao1 a2.length cap1), (3, .string (bstr a3)), (10, .pointer (some ⟨gO6, 0, none⟩)), (12, .int .i64 t46.1), (13, .int .i64 x21)] (by kernel_rfl) fun a ha => ?_
            rcases Bool.eq_false_or_eq_true (t65.1 != t46.1) with hb71 | hb71
            ·have ha := ha.lit hb71
             have H := ite_t hb71 H
             refine sgh ha 5 [1, 1, 1, 1, 3] [(0, .int .i64 a0), (1, .int .i64 a1), (2, .slice ao1 a2.length cap1), (3, .string (bstr a3)), (10, .pointer (some ⟨gO6, 0, none⟩)), (12, .int .i64 t46.1), (13, .int .i64 x21), (174, .bool true)] (by kernel_rfl) fun a ha => ?_
             obtain rfl := Option.some.inj H
             exact J67 _ _ (ha.sel (by kernel_rfl)) f1 hBg36 fO6 hC hM
            ·have ha := ha.lit hb71
             have H := ite_f hb71 H
             refine sgh ha 1 [2] [(0, .int .i64 a0), (1, .int .i64 a1), (2, .slice ao1 a2.length cap1), (3, .string (bstr a3)), (10, .pointer (some ⟨gO6, 0, none⟩)), (12, .int .i64 t46.1), (13, .int .i64 x21), (169, .bool false), (170, .pointer (some ⟨gO6, 0, none⟩))] (by kernel_rfl) fun a ha => ?_
             obtain ⟨t72, H72, H⟩ := bind_some H
             refine cl ha (by rfl) (by kernel_rfl) (by rfl) (by rfl) (by rfl) (Pool_Count.walk w65 _ hM gO6 L6 t46.2.2 fO6 (fun _ h => mr (ml h)) _ H72) ?_
             rintro _ w72 ⟨rfl, hc72, hMn⟩ a ha
             have o1 : Ok [] ([g36] ++ (L6 ++ (M))) w65.heap.size := Ok.nil _ _
             have o2 : Ok ([g36] ++ (L6 ++ (M))) ([g36] ++ (L6 ++ (M))) w65.heap.size := (Ok.refl _ _)
             have f1 := f1.chg hc72 o1 o2
             have hBg36 := hBg36.chg hc72 (fun h => nomatch h)
             have fO6 := fO6.chg hc72 (fun _ _ h => nomatch h)
             have hM : MS ([g36] ++ (L6 ++ (M))) w72 := (hM.chg hc72)
             have hC := hC.trans hc72 (Ok.nil _ _)
             refine sgh ha 3 [2, 2, 4] [(0, .int .i64 a0), (1, .int .i64 a1), (2, .slice ao1 a2.length cap1), (3, .string (bstr a3)), (10, .pointer (some ⟨gO6, 0, none⟩)), (12, .int .i64 t46.1), (13, .int .i64 x21), (174, .bool (decide (t72 > a1)))] (by kernel_rfl) fun a ha => ?_
             obtain rfl := Option.some.inj H
             exact J67 _ _ (ha.sel (by kernel_rfl)) f1 hBg36 fO6 hC hM
          ·have H := ite_f hc63 H
           refine wp_skip ?_
           refine hK41 _ _ ?_; try clear hK41 K41
           refine wp_seq_k fun K73 hK73 => ?_
           refine wp_region_lit ?_
           refine seg ha 2 [(0, .int .i64 a0), (1, .int .i64 a1), (2, .slice ao1 a2.length cap1), (3, .string (bstr a3)), (10, .pointer (some ⟨gO6, 0, none⟩)), (12, .int .i64 x20), (13, .int .i64 x21), (155, .pointer (some ⟨gO6, 0, none⟩)), (156, .string (bstr a3))] (by kernel_rfl) fun a ha => ?_
           obtain ⟨t74, H74, H⟩ := bind_some H
           refine cl ha (by rfl) (by kernel_rfl) (by rfl) (by rfl) (by rfl) (Pool_Of.walk w55 _ hM gO6 L6 t46.2.2 fO6 (fun _ h => mr (ml h)) a3 _ H74) ?_
           rintro _ w74 ⟨rfl, hc74, hMn⟩ a ha
           have o1 : Ok [] ([g36] ++ (L6 ++ (M))) w55.heap.size := Ok.nil _ _
           have o2 : Ok ([g36] ++ (L6 ++ (M))) ([g36] ++ (L6 ++ (M))) w55.heap.size := (Ok.refl _ _)
           have f1 := f1.chg hc74 o1 o2
           have hBg36 := hBg36.chg hc74 (fun h => nomatch h)
           have fO6 := fO6.chg hc74 (fun _ _ h => nomatch h)
           have hM : MS ([g36] ++ (L6 ++ (M))) w74 := (hM.chg hc74)
           have hC := hC.trans hc74 (Ok.nil _ _)
           refine seg ha 5 [(0, .int .i64 a0), (1, .int .i64 a1), (2, .slice ao1 a2.length cap1), (3, .string (bstr a3)), (10, .pointer (some ⟨gO6, 0, none⟩)), (12, .int .i64 x20), (13, .int .i64 x21), (22, .int .i64 t74.1), (23, .bool t74.2)] (by kernel_rfl) fun a ha => ?_
           refine hK73 _ _ ?_; try clear hK73 K73
           refine wp_seq_k fun K75 hK75 => ?_
           refine wp_region_lit ?_
           obtain ⟨s76, H76, H⟩ := bind_some H
           have J76 : ∀ (a : Act) (w76 : World), Has a Try.f5.ntmps [(0, .int .i64 a0), (1, .int .i64 a1), (2, .slice ao1 a2.length cap1), (3, .string (bstr a3)), (10, .pointer (some ⟨gO6, 0, none⟩)), (12, .int .i64 x20), (13, .int .i64 x21), (174, .bool s76)] → (RSl rS_vinerylaw05_Act 36 w76 ([g36] ++ (L6 ++ (M))) ao1 cap1 a2) → (Box w76 g36 (cS_vinerylaw05_Act (rd a2 x21))) → (PoolAt w76 gO6 L6 t46.2.2) → (Chg [] w w76) → (MS ([g36] ++ (L6 ++ (M))) w76) → K75 a w76 := by
            intro a w76 ha f1 hBg36 fO6 hC hM
            refine hK75 _ _ ?_; try clear hK75 K75
            refine cnd ha rfl (fun hc77 => ?_) (fun hc77 => ?_)
            ·have H := ite_t hc77 H
             refine wp_seq_k fun K78 hK78 => ?_
             refine wp_region_lit ?_
             refine seg ha 1 [(8, .bool false)] (by kernel_rfl) fun a ha => ?_
             refine hK78 _ _ ?_; try clear hK78 K78
             refine wp_ret ?_
             try simp only [Exit.then, Exit.inBlock]
             have hBg36 := hBg36.chg (Chg.refl [] _) (fun h => nomatch h)
             have hM : MS (M) w76 := (fun x h => hM.chg (Chg.refl [] _) x (mr (mr (h))))
             have hC := hC.trans (Chg.refl [] _) (Ok.nil _ _)
             obtain rfl := Option.some.inj H
             have H := (show some _ = some _ from Hc18)
             obtain rfl := Option.some.inj H
             refine rt1 ha rfl rfl ?_
             exact ⟨rfl, hC, hM⟩
            ·have H := ite_f hc77 H
             refine wp_skip ?_
             refine hK26 _ _ ?_; try clear hK26 K26
             refine wp_region_lit ?_
             refine seg ha 3 [(0, .int .i64 a0), (1, .int .i64 a1), (2, .slice ao1 a2.length cap1), (3, .string (bstr a3)), (10, .pointer (some ⟨gO6, 0, none⟩)), (12, .int .i64 x20), (13, .int .i64 (IntKind.i64.wrap (x21 + (1 : Int))))] (by kernel_rfl) fun a ha => ?_
             have o1 : Ok [] ([g36] ++ (L6 ++ (M))) w76.heap.size := Ok.nil _ _
             have o2 : Ok (L6 ++ (M)) ([g36] ++ (L6 ++ (M))) w76.heap.size := (fun _ h => .inl (mr (h)))
             have f1 := f1.chg (Chg.refl [] _) o1 o2
             have hBg36 := hBg36.chg (Chg.refl [] _) (fun h => nomatch h)
             have fO6 := fO6.chg (Chg.refl [] _) (fun _ _ h => nomatch h)
             have hM : MS (L6 ++ (M)) w76 := (fun x h => hM.chg (Chg.refl [] _) x (mr (h)))
             have hC := hC.trans (Chg.refl [] _) (Ok.nil _ _)
             exact ⟨kk, Nat.lt_succ_self _, ⟨t46.2.2, x20, IntKind.i64.wrap (x21 + (1 : Int)), H, (ha.sel (by kernel_rfl)), f1, fO6, hC, hM⟩⟩
           have H := H76
           refine seg ha 5 [(164, .bool (!(t74.2 == (x20 != (0 : Int))))), (0, .int .i64 a0), (1, .int .i64 a1), (2, .slice ao1 a2.length cap1), (3, .string (bstr a3)), (10, .pointer (some ⟨gO6, 0, none⟩)), (12, .int .i64 x20), (13, .int .i64 x21), (22, .int .i64 t74.1)] (by kernel_rfl) fun a ha => ?_
           rcases Bool.eq_false_or_eq_true (!(t74.2 == (x20 != (0 : Int)))) with hb79 | hb79
           ·have ha := ha.lit hb79
            have H := ite_t hb79 H
            refine sgh ha 10 [1, 1, 1, 3, 0, 1, 1, 1, 1, 3] [(0, .int .i64 a0), (1, .int .i64 a1), (2, .slice ao1 a2.length cap1), (3, .string (bstr a3)), (10, .pointer (some ⟨gO6, 0, none⟩)), (12, .int .i64 x20), (13, .int .i64 x21), (174, .bool true)] (by kernel_rfl) fun a ha => ?_
            obtain rfl := Option.some.inj H
            exact J76 _ _ (ha.sel (by kernel_rfl)) f1 hBg36 fO6 hC hM
           ·have ha := ha.lit hb79
            have H := ite_f hb79 H
            refine sgh ha 5 [2, 2, 2, 4, 0] [(169, .bool (t74.1 != x20)), (0, .int .i64 a0), (1, .int .i64 a1), (2, .slice ao1 a2.length cap1), (3, .string (bstr a3)), (10, .pointer (some ⟨gO6, 0, none⟩)), (12, .int .i64 x20), (13, .int .i64 x21)] (by kernel_rfl) fun a ha => ?_
            rcases Bool.eq_false_or_eq_true (t74.1 != x20) with hb80 | hb80
            ·have ha := ha.lit hb80
             have H := ite_t hb80 H
             refine sgh ha 5 [1, 1, 1, 1, 3] [(0, .int .i64 a0), (1, .int .i64 a1), (2, .slice ao1 a2.length cap1), (3, .string (bstr a3)), (10, .pointer (some ⟨gO6, 0, none⟩)), (12, .int .i64 x20), (13, .int .i64 x21), (174, .bool true)] (by kernel_rfl) fun a ha => ?_
             obtain rfl := Option.some.inj H
             exact J76 _ _ (ha.sel (by kernel_rfl)) f1 hBg36 fO6 hC hM
            ·have ha := ha.lit hb80
             have H := ite_f hb80 H
             refine sgh ha 1 [2] [(0, .int .i64 a0), (1, .int .i64 a1), (2, .slice ao1 a2.length cap1), (3, .string (bstr a3)), (10, .pointer (some ⟨gO6, 0, none⟩)), (12, .int .i64 x20), (13, .int .i64 x21), (169, .bool false), (170, .pointer (some ⟨gO6, 0, none⟩))] (by kernel_rfl) fun a ha => ?_
             obtain ⟨t81, H81, H⟩ := bind_some H
             refine cl ha (by rfl) (by kernel_rfl) (by rfl) (by rfl) (by rfl) (Pool_Count.walk w74 _ hM gO6 L6 t46.2.2 fO6 (fun _ h => mr (ml h)) _ H81) ?_
             rintro _ w81 ⟨rfl, hc81, hMn⟩ a ha
             have o1 : Ok [] ([g36] ++ (L6 ++ (M))) w74.heap.size := Ok.nil _ _
             have o2 : Ok ([g36] ++ (L6 ++ (M))) ([g36] ++ (L6 ++ (M))) w74.heap.size := (Ok.refl _ _)
             have f1 := f1.chg hc81 o1 o2
             have hBg36 := hBg36.chg hc81 (fun h => nomatch h)
             have fO6 := fO6.chg hc81 (fun _ _ h => nomatch h)
             have hM : MS ([g36] ++ (L6 ++ (M))) w81 := (hM.chg hc81)
             have hC := hC.trans hc81 (Ok.nil _ _)
             refine sgh ha 3 [2, 2, 4] [(0, .int .i64 a0), (1, .int .i64 a1), (2, .slice ao1 a2.length cap1), (3, .string (bstr a3)), (10, .pointer (some ⟨gO6, 0, none⟩)), (12, .int .i64 x20), (13, .int .i64 x21), (174, .bool (decide (t81 > a1)))] (by kernel_rfl) fun a ha => ?_
             obtain rfl := Option.some.inj H
             exact J76 _ _ (ha.sel (by kernel_rfl)) f1 hBg36 fO6 hC hM
       have H := H55
       refine seg ha 3 [(91, .bool (!t50.2)), (0, .int .i64 a0), (1, .int .i64 a1), (2, .slice ao1 a2.length cap1), (3, .string (bstr a3)), (10, .pointer (some ⟨gO6, 0, none⟩)), (12, .int .i64 x20), (13, .int .i64 x21), (14, .pointer (some ⟨g36, 0, none⟩)), (15, .int .i64 t46.1), (17, .string (bstr t50.1)), (19, .int .i64 t52.1), (20, .bool t52.2)] (by kernel_rfl) fun a ha => ?_
       rcases Bool.eq_false_or_eq_true (!t50.2) with hb82 | hb82
       ·have ha := ha.lit hb82
        have H := ite_t hb82 H
        refine sgh ha 26 [1, 1, 1, 1, 3, 0, 1, 1, 3, 0, 1, 1, 1, 3, 0, 1, 1, 1, 3, 0, 1, 1, 1, 1, 1, 3] [(0, .int .i64 a0), (1, .int .i64 a1), (2, .slice ao1 a2.length cap1), (3, .string (bstr a3)), (10, .pointer (some ⟨gO6, 0, none⟩)), (12, .int .i64 x20), (13, .int .i64 x21), (14, .pointer (some ⟨g36, 0, none⟩)), (15, .int .i64 t46.1), (117, .bool true)] (by kernel_rfl) fun a ha => ?_
        obtain rfl := Option.some.inj H
        exact J55 _ _ (ha.sel (by kernel_rfl)) f1 hBg36 fO6 hC hM
       ·have ha := ha.lit hb82
        have H := ite_f hb82 H
        refine sgh ha 2 [2, 2] [(0, .int .i64 a0), (1, .int .i64 a1), (2, .slice ao1 a2.length cap1), (3, .string (bstr a3)), (10, .pointer (some ⟨gO6, 0, none⟩)), (12, .int .i64 x20), (13, .int .i64 x21), (14, .pointer (some ⟨g36, 0, none⟩)), (15, .int .i64 t46.1), (19, .int .i64 t52.1), (20, .bool t52.2), (91, .bool false), (92, .string (bstr t50.1)), (93, .pointer (some ⟨g36, 1, none⟩))] (by kernel_rfl) fun a ha => ?_
        refine ld (v := .string (bstr ((rd a2 x21).S))) ha rfl (by kernel_rfl) rfl rfl rfl (hBg36.cell' (o := 1) rfl (by kernel_rfl)) fun a ha => ?_
        refine sgh ha 3 [2, 4, 0] [(97, .bool (!((bstr t50.1).toList == (bstr ((rd a2 x21).S)).toList))), (0, .int .i64 a0), (1, .int .i64 a1), (2, .slice ao1 a2.length cap1), (3, .string (bstr a3)), (10, .pointer (some ⟨gO6, 0, none⟩)), (12, .int .i64 x20), (13, .int .i64 x21), (14, .pointer (some ⟨g36, 0, none⟩)), (15, .int .i64 t46.1), (19, .int .i64 t52.1), (20, .bool t52.2)] (by kernel_rfl) fun a ha => ?_
        rcases Bool.eq_false_or_eq_true (!((bstr t50.1).toList == (bstr ((rd a2 x21).S)).toList)) with hb83 | hb83
        ·have ha := ha.lit hb83
         have H := ite_t hb83 H
         refine sgh ha 20 [1, 1, 3, 0, 1, 1, 1, 3, 0, 1, 1, 1, 3, 0, 1, 1, 1, 1, 1, 3] [(0, .int .i64 a0), (1, .int .i64 a1), (2, .slice ao1 a2.length cap1), (3, .string (bstr a3)), (10, .pointer (some ⟨gO6, 0, none⟩)), (12, .int .i64 x20), (13, .int .i64 x21), (14, .pointer (some ⟨g36, 0, none⟩)), (15, .int .i64 t46.1), (117, .bool true)] (by kernel_rfl) fun a ha => ?_
         obtain rfl := Option.some.inj H
         exact J55 _ _ (ha.sel (by kernel_rfl)) f1 hBg36 fO6 hC hM
        ·have ha := ha.lit hb83
         have H := ite_f hb83 H
         refine sgh ha 4 [2, 2, 4, 0] [(101, .bool (!t52.2)), (0, .int .i64 a0), (1, .int .i64 a1), (2, .slice ao1 a2.length cap1), (3, .string (bstr a3)), (10, .pointer (some ⟨gO6, 0, none⟩)), (12, .int .i64 x20), (13, .int .i64 x21), (14, .pointer (some ⟨g36, 0, none⟩)), (15, .int .i64 t46.1), (19, .int .i64 t52.1)] (by kernel_rfl) fun a ha => ?_
         rcases Bool.eq_false_or_eq_true (!t52.2) with hb84 | hb84
         ·have ha := ha.lit hb84
          have H := ite_t hb84 H
          refine sgh ha 16 [1, 1, 1, 3, 0, 1, 1, 1, 3, 0, 1, 1, 1, 1, 1, 3] [(0, .int .i64 a0), (1, .int .i64 a1), (2, .slice ao1 a2.length cap1), (3, .string (bstr a3)), (10, .pointer (some ⟨gO6, 0, none⟩)), (12, .int .i64 x20), (13, .int .i64 x21), (14, .pointer (some ⟨g36, 0, none⟩)), (15, .int .i64 t46.1), (117, .bool true)] (by kernel_rfl) fun a ha => ?_
          obtain rfl := Option.some.inj H
          exact J55 _ _ (ha.sel (by kernel_rfl)) f1 hBg36 fO6 hC hM
         ·have ha := ha.lit hb84
          have H := ite_f hb84 H
          refine sgh ha 5 [2, 2, 2, 4, 0] [(106, .bool (t52.1 != t46.1)), (0, .int .i64 a0), (1, .int .i64 a1), (2, .slice ao1 a2.length cap1), (3, .string (bstr a3)), (10, .pointer (some ⟨gO6, 0, none⟩)), (12, .int .i64 x20), (13, .int .i64 x21), (14, .pointer (some ⟨g36, 0, none⟩)), (15, .int .i64 t46.1)] (by kernel_rfl) fun a ha => ?_
          rcases Bool.eq_false_or_eq_true (t52.1 != t46.1) with hb85 | hb85
          ·have ha := ha.lit hb85
           have H := ite_t hb85 H
           refine sgh ha 11 [1, 1, 1, 3, 0, 1, 1, 1, 1, 1, 3] [(0, .int .i64 a0), (1, .int .i64 a1), (2, .slice ao1 a2.length cap1), (3, .string (bstr a3)), (10, .pointer (some ⟨gO6, 0, none⟩)), (12, .int .i64 x20), (13, .int .i64 x21), (14, .pointer (some ⟨g36, 0, none⟩)), (15, .int .i64 t46.1), (117, .bool true)] (by kernel_rfl) fun a ha => ?_
           obtain rfl := Option.some.inj H
           exact J55 _ _ (ha.sel (by kernel_rfl)) f1 hBg36 fO6 hC hM
          ·have ha := ha.lit hb85
           have H := ite_f hb85 H
           refine sgh ha 5 [2, 2, 2, 4, 0] [(111, .bool (decide (t46.1 < a0))), (0, .int .i64 a0), (1, .int .i64 a1), (2, .slice ao1 a2.length cap1), (3, .string (bstr a3)), (10, .pointer (some ⟨gO6, 0, none⟩)), (12, .int .i64 x20), (13, .int .i64 x21), (14, .pointer (some ⟨g36, 0, none⟩)), (15, .int .i64 t46.1)] (by kernel_rfl) fun a ha => ?_
           rcases Bool.eq_false_or_eq_true (decide (t46.1 < a0)) with hb86 | hb86
           ·have ha := ha.lit hb86
            have H := ite_t hb86 H
            refine sgh ha 6 [1, 1, 1, 1, 1, 3] [(0, .int .i64 a0), (1, .int .i64 a1), (2, .slice ao1 a2.length cap1), (3, .string (bstr a3)), (10, .pointer (some ⟨gO6, 0, none⟩)), (12, .int .i64 x20), (13, .int .i64 x21), (14, .pointer (some ⟨g36, 0, none⟩)), (15, .int .i64 t46.1), (117, .bool true)] (by kernel_rfl) fun a ha => ?_
            obtain rfl := Option.some.inj H
            exact J55 _ _ (ha.sel (by kernel_rfl)) f1 hBg36 fO6 hC hM
           ·have ha := ha.lit hb86
            have H := ite_f hb86 H
            refine sgh ha 6 [2, 2, 2, 2, 2, 4] [(0, .int .i64 a0), (1, .int .i64 a1), (2, .slice ao1 a2.length cap1), (3, .string (bstr a3)), (10, .pointer (some ⟨gO6, 0, none⟩)), (12, .int .i64 x20), (13, .int .i64 x21), (14, .pointer (some ⟨g36, 0, none⟩)), (15, .int .i64 t46.1), (117, .bool (decide ((IntKind.i64.wrap (t46.1 - a0)) ≥ a1)))] (by kernel_rfl) fun a ha => ?_
            obtain rfl := Option.some.inj H
            exact J55 _ _ (ha.sel (by kernel_rfl)) f1 hBg36 fO6 hC hM
      ·have H := ite_f hc48 H
       refine wp_skip ?_
       refine hK41 _ _ ?_; try clear hK41 K41
       refine wp_seq_k fun K87 hK87 => ?_
       refine wp_region_lit ?_
       refine seg ha 2 [(0, .int .i64 a0), (1, .int .i64 a1), (2, .slice ao1 a2.length cap1), (3, .string (bstr a3)), (10, .pointer (some ⟨gO6, 0, none⟩)), (12, .int .i64 x20), (13, .int .i64 x21), (155, .pointer (some ⟨gO6, 0, none⟩)), (156, .string (bstr a3))] (by kernel_rfl) fun a ha => ?_
       obtain ⟨t88, H88, H⟩ := bind_some H
       refine cl ha (by rfl) (by kernel_rfl) (by rfl) (by rfl) (by rfl) (Pool_Of.walk w46 _ hM gO6 L6 t46.2.2 fO6 (fun _ h => mr (ml h)) a3 _ H88) ?_
       rintro _ w88 ⟨rfl, hc88, hMn⟩ a ha
       have o1 : Ok [] ([g36] ++ (L6 ++ (M))) w46.heap.size := Ok.nil _ _
       have o2 : Ok ([g36] ++ (L6 ++ (M))) ([g36] ++ (L6 ++ (M))) w46.heap.size := (Ok.refl _ _)
       have f1 := f1.chg hc88 o1 o2
       have hBg36 := hBg36.chg hc88 (fun h => nomatch h)
       have fO6 := fO6.chg hc88 (fun _ _ h => nomatch h)
       have hM : MS ([g36] ++ (L6 ++ (M))) w88 := (hM.chg hc88)
       have hC := hC.trans hc88 (Ok.nil _ _)
       refine seg ha 5 [(0, .int .i64 a0), (1, .int .i64 a1), (2, .slice ao1 a2.length cap1), (3, .string (bstr a3)), (10, .pointer (some ⟨gO6, 0, none⟩)), (12, .int .i64 x20), (13, .int .i64 x21), (22, .int .i64 t88.1), (23, .bool t88.2)] (by kernel_rfl) fun a ha => ?_
       refine hK87 _ _ ?_; try clear hK87 K87
       refine wp_seq_k fun K89 hK89 => ?_
       refine wp_region_lit ?_
       obtain ⟨s90, H90, H⟩ := bind_some H
       have J90 : ∀ (a : Act) (w90 : World), Has a Try.f5.ntmps [(0, .int .i64 a0), (1, .int .i64 a1), (2, .slice ao1 a2.length cap1), (3, .string (bstr a3)), (10, .pointer (some ⟨gO6, 0, none⟩)), (12, .int .i64 x20), (13, .int .i64 x21), (174, .bool s90)] → (RSl rS_vinerylaw05_Act 36 w90 ([g36] ++ (L6 ++ (M))) ao1 cap1 a2) → (Box w90 g36 (cS_vinerylaw05_Act (rd a2 x21))) → (PoolAt w90 gO6 L6 t46.2.2) → (Chg [] w w90) → (MS ([g36] ++ (L6 ++ (M))) w90) → K89 a w90 := by
        intro a w90 ha f1 hBg36 fO6 hC hM
        refine hK89 _ _ ?_; try clear hK89 K89
        refine cnd ha rfl (fun hc91 => ?_) (fun hc91 => ?_)
        ·have H := ite_t hc91 H
         refine wp_seq_k fun K92 hK92 => ?_
         refine wp_region_lit ?_
         refine seg ha 1 [(8, .bool false)] (by kernel_rfl) fun a ha => ?_
         refine hK92 _ _ ?_; try clear hK92 K92
         refine wp_ret ?_
         try simp only [Exit.then, Exit.inBlock]
         have hBg36 := hBg36.chg (Chg.refl [] _) (fun h => nomatch h)
         have hM : MS (M) w90 := (fun x h => hM.chg (Chg.refl [] _) x (mr (mr (h))))
         have hC := hC.trans (Chg.refl [] _) (Ok.nil _ _)
         obtain rfl := Option.some.inj H
         have H := (show some _ = some _ from Hc18)
         obtain rfl := Option.some.inj H
         refine rt1 ha rfl rfl ?_
         exact ⟨rfl, hC, hM⟩
        ·have H := ite_f hc91 H
         refine wp_skip ?_
         refine hK26 _ _ ?_; try clear hK26 K26
         refine wp_region_lit ?_
         refine seg ha 3 [(0, .int .i64 a0), (1, .int .i64 a1), (2, .slice ao1 a2.length cap1), (3, .string (bstr a3)), (10, .pointer (some ⟨gO6, 0, none⟩)), (12, .int .i64 x20), (13, .int .i64 (IntKind.i64.wrap (x21 + (1 : Int))))] (by kernel_rfl) fun a ha => ?_
         have o1 : Ok [] ([g36] ++ (L6 ++ (M))) w90.heap.size := Ok.nil _ _
         have o2 : Ok (L6 ++ (M)) ([g36] ++ (L6 ++ (M))) w90.heap.size := (fun _ h => .inl (mr (h)))
         have f1 := f1.chg (Chg.refl [] _) o1 o2
         have hBg36 := hBg36.chg (Chg.refl [] _) (fun h => nomatch h)
         have fO6 := fO6.chg (Chg.refl [] _) (fun _ _ h => nomatch h)
         have hM : MS (L6 ++ (M)) w90 := (fun x h => hM.chg (Chg.refl [] _) x (mr (h)))
         have hC := hC.trans (Chg.refl [] _) (Ok.nil _ _)
         exact ⟨kk, Nat.lt_succ_self _, ⟨t46.2.2, x20, IntKind.i64.wrap (x21 + (1 : Int)), H, (ha.sel (by kernel_rfl)), f1, fO6, hC, hM⟩⟩
       have H := H90
       refine seg ha 5 [(164, .bool (!(t88.2 == (x20 != (0 : Int))))), (0, .int .i64 a0), (1, .int .i64 a1), (2, .slice ao1 a2.length cap1), (3, .string (bstr a3)), (10, .pointer (some ⟨gO6, 0, none⟩)), (12, .int .i64 x20), (13, .int .i64 x21), (22, .int .i64 t88.1)] (by kernel_rfl) fun a ha => ?_
       rcases Bool.eq_false_or_eq_true (!(t88.2 == (x20 != (0 : Int)))) with hb93 | hb93
       ·have ha := ha.lit hb93
        have H := ite_t hb93 H
        refine sgh ha 10 [1, 1, 1, 3, 0, 1, 1, 1, 1, 3] [(0, .int .i64 a0), (1, .int .i64 a1), (2, .slice ao1 a2.length cap1), (3, .string (bstr a3)), (10, .pointer (some ⟨gO6, 0, none⟩)), (12, .int .i64 x20), (13, .int .i64 x21), (174, .bool true)] (by kernel_rfl) fun a ha => ?_
        obtain rfl := Option.some.inj H
        exact J90 _ _ (ha.sel (by kernel_rfl)) f1 hBg36 fO6 hC hM
       ·have ha := ha.lit hb93
        have H := ite_f hb93 H
        refine sgh ha 5 [2, 2, 2, 4, 0] [(169, .bool (t88.1 != x20)), (0, .int .i64 a0), (1, .int .i64 a1), (2, .slice ao1 a2.length cap1), (3, .string (bstr a3)), (10, .pointer (some ⟨gO6, 0, none⟩)), (12, .int .i64 x20), (13, .int .i64 x21)] (by kernel_rfl) fun a ha => ?_
        rcases Bool.eq_false_or_eq_true (t88.1 != x20) with hb94 | hb94
        ·have ha := ha.lit hb94
         have H := ite_t hb94 H
         refine sgh ha 5 [1, 1, 1, 1, 3] [(0, .int .i64 a0), (1, .int .i64 a1), (2, .slice ao1 a2.length cap1), (3, .string (bstr a3)), (10, .pointer (some ⟨gO6, 0, none⟩)), (12, .int .i64 x20), (13, .int .i64 x21), (174, .bool true)] (by kernel_rfl) fun a ha => ?_
         obtain rfl := Option.some.inj H
         exact J90 _ _ (ha.sel (by kernel_rfl)) f1 hBg36 fO6 hC hM
        ·have ha := ha.lit hb94
         have H := ite_f hb94 H
         refine sgh ha 1 [2] [(0, .int .i64 a0), (1, .int .i64 a1), (2, .slice ao1 a2.length cap1), (3, .string (bstr a3)), (10, .pointer (some ⟨gO6, 0, none⟩)), (12, .int .i64 x20), (13, .int .i64 x21), (169, .bool false), (170, .pointer (some ⟨gO6, 0, none⟩))] (by kernel_rfl) fun a ha => ?_
         obtain ⟨t95, H95, H⟩ := bind_some H
         refine cl ha (by rfl) (by kernel_rfl) (by rfl) (by rfl) (by rfl) (Pool_Count.walk w88 _ hM gO6 L6 t46.2.2 fO6 (fun _ h => mr (ml h)) _ H95) ?_
         rintro _ w95 ⟨rfl, hc95, hMn⟩ a ha
         have o1 : Ok [] ([g36] ++ (L6 ++ (M))) w88.heap.size := Ok.nil _ _
         have o2 : Ok ([g36] ++ (L6 ++ (M))) ([g36] ++ (L6 ++ (M))) w88.heap.size := (Ok.refl _ _)
         have f1 := f1.chg hc95 o1 o2
         have hBg36 := hBg36.chg hc95 (fun h => nomatch h)
         have fO6 := fO6.chg hc95 (fun _ _ h => nomatch h)
         have hM : MS ([g36] ++ (L6 ++ (M))) w95 := (hM.chg hc95)
         have hC := hC.trans hc95 (Ok.nil _ _)
         refine sgh ha 3 [2, 2, 4] [(0, .int .i64 a0), (1, .int .i64 a1), (2, .slice ao1 a2.length cap1), (3, .string (bstr a3)), (10, .pointer (some ⟨gO6, 0, none⟩)), (12, .int .i64 x20), (13, .int .i64 x21), (174, .bool (decide (t95 > a1)))] (by kernel_rfl) fun a ha => ?_
         obtain rfl := Option.some.inj H
         exact J90 _ _ (ha.sel (by kernel_rfl)) f1 hBg36 fO6 hC hM
     ·have H := ite_f hc44 H
      refine wp_seq_k fun K96 hK96 => ?_
      refine wp_region_lit ?_
      refine seg ha 2 [(0, .int .i64 a0), (1, .int .i64 a1), (2, .slice ao1 a2.length cap1), (3, .string (bstr a3)), (10, .pointer (some ⟨gO6, 0, none⟩)), (12, .int .i64 x20), (13, .int .i64 x21), (14, .pointer (some ⟨g36, 0, none⟩)), (64, .int .i64 ((rd a2 x21).Do)), (136, .bool (((rd a2 x21).Do) == (1 : Int)))] (by kernel_rfl) fun a ha => ?_
      refine hK96 _ _ ?_; try clear hK96 K96
      refine cnd ha rfl (fun hc97 => ?_) (fun hc97 => ?_)
      ·have H := ite_t hc97 H
       refine wp_seq_k fun K98 hK98 => ?_
       refine wp_region_lit ?_
       refine seg ha 2 [(0, .int .i64 a0), (1, .int .i64 a1), (2, .slice ao1 a2.length cap1), (3, .string (bstr a3)), (10, .pointer (some ⟨gO6, 0, none⟩)), (12, .int .i64 x20), (13, .int .i64 x21), (14, .pointer (some ⟨g36, 0, none⟩)), (138, .pointer (some ⟨gO6, 0, none⟩)), (139, .pointer (some ⟨g36, 1, none⟩))] (by kernel_rfl) fun a ha => ?_
       refine ld (v := .string (bstr ((rd a2 x21).S))) ha rfl (by kernel_rfl) rfl rfl rfl (hBg36.cell' (o := 1) rfl (by kernel_rfl)) fun a ha => ?_
       obtain ⟨t99, H99, H⟩ := bind_some H
       refine cl ha (by rfl) (by kernel_rfl) (by rfl) (by rfl) (by rfl) (Pool_Free.walk w39 _ hM gO6 L6 x19 fO6 (fun _ h => mr (ml h)) ((rd a2 x21).S) _ H99) ?_
       rintro _ w99 ⟨rfl, nf99, hc99, hMn⟩ a ha
       have o1 : Ok L6 ([g36] ++ (L6 ++ (M))) w39.heap.size := (fun _ h => .inl (mr (ml h)))
       have o2 : Ok ([g36] ++ (L6 ++ (M))) ([g36] ++ (L6 ++ (M))) w39.heap.size := (Ok.refl _ _)
       have f1 := f1.chg hc99 o1 o2
       have hBg36 := hBg36.chg hc99 (p_i38_i6 g36 (by simp))
       have hM : MS ([g36] ++ (L6 ++ (M))) w99 := (hM.chg hc99)
       have hC := hC.trans hc99 (fun x h => .inr (e_i6 x h))
       have fO6 := nf99
       refine seg ha 1 [(0, .int .i64 a0), (1, .int .i64 a1), (2, .slice ao1 a2.length cap1), (3, .string (bstr a3)), (10, .pointer (some ⟨gO6, 0, none⟩)), (12, .int .i64 x20), (13, .int .i64 x21), (14, .pointer (some ⟨g36, 0, none⟩)), (21, .bool t99.1)] (by kernel_rfl) fun a ha => ?_
       refine hK98 _ _ ?_; try clear hK98 K98
       refine wp_seq_k fun K100 hK100 => ?_
       refine wp_region_lit ?_
       refine seg ha 1 [(0, .int .i64 a0), (1, .int .i64 a1), (2, .slice ao1 a2.length cap1), (3, .string (bstr a3)), (10, .pointer (some ⟨gO6, 0, none⟩)), (12, .int .i64 x20), (13, .int .i64 x21), (21, .bool t99.1), (142, .pointer (some ⟨g36, 1, none⟩))] (by kernel_rfl) fun a ha => ?_
       refine ld (v := .string (bstr ((rd a2 x21).S))) ha rfl (by kernel_rfl) rfl rfl rfl (hBg36.cell' (o := 1) rfl (by kernel_rfl)) fun a ha => ?_
       refine seg ha 2 [(0, .int .i64 a0), (1, .int .i64 a1), (2, .slice ao1 a2.length cap1), (3, .string (bstr a3)), (10, .pointer (some ⟨gO6, 0, none⟩)), (12, .int .i64 x20), (13, .int .i64 x21), (21, .bool t99.1), (145, .bool ((bstr ((rd a2 x21).S)).toList == (bstr a3).toList))] (by kernel_rfl) fun a ha => ?_
       refine hK100 _ _ ?_; try clear hK100 K100
       refine cnd ha rfl (fun hc101 => ?_) (fun hc101 => ?_)
       ·have H := ite_t hc101 H
        refine wp_seq_k fun K102 hK102 => ?_
        refine wp_seq_k fun K103 hK103 => ?_
        refine wp_region_lit ?_
        refine seg ha 4 [(0, .int .i64 a0), (1, .int .i64 a1), (2, .slice ao1 a2.length cap1), (3, .string (bstr a3)), (10, .pointer (some ⟨gO6, 0, none⟩)), (13, .int .i64 x21), (149, .bool (!(t99.1 == (x20 != (0 : Int)))))] (by kernel_rfl) fun a ha => ?_
        refine hK103 _ _ ?_; try clear hK103 K103
        refine cnd ha rfl (fun hc104 => ?_) (fun hc104 => ?_)
        ·have H := ite_t hc104 H
         refine wp_seq_k fun K105 hK105 => ?_
         refine wp_region_lit ?_
         refine seg ha 1 [(8, .bool false)] (by kernel_rfl) fun a ha => ?_
         refine hK105 _ _ ?_; try clear hK105 K105
         refine wp_ret ?_
         try simp only [Exit.then, Exit.inBlock]
         have hBg36 := hBg36.chg (Chg.refl [] _) (fun h => nomatch h)
         have hM : MS (M) w99 := (fun x h => hM.chg (Chg.refl [] _) x (mr (mr (h))))
         have hC := hC.trans (Chg.refl [] _) (Ok.nil _ _)
         obtain rfl := Option.some.inj H
         have H := (show some _ = some _ from Hc18)
         obtain rfl := Option.some.inj H
         refine rt1 ha rfl rfl ?_
         exact ⟨rfl, hC, hM⟩
        ·have H := ite_f hc104 H
         refine wp_skip ?_
         refine hK102 _ _ ?_; try clear hK102 K102
         refine wp_region_lit ?_
         refine seg ha 1 [(0, .int .i64 a0), (1, .int .i64 a1), (2, .slice ao1 a2.length cap1), (3, .string (bstr a3)), (10, .pointer (some ⟨gO6, 0, none⟩)), (12, .int .i64 (0 : Int)), (13, .int .i64 x21)] (by kernel_rfl) fun a ha => ?_
         refine hK41 _ _ ?_; try clear hK41 K41
         refine wp_seq_k fun K106 hK106 => ?_
         refine wp_region_lit ?_
         refine seg ha 2 [(0, .int .i64 a0), (1, .int .i64 a1), (2, .slice ao1 a2.length cap1), (3, .string (bstr a3)), (10, .pointer (some ⟨gO6, 0, none⟩)), (12, .int .i64 (0 : Int)), (13, .int .i64 x21), (155, .pointer (some ⟨gO6, 0, none⟩)), (156, .string (bstr a3))] (by kernel_rfl) fun a ha => ?_
         obtain ⟨t107, H107, H⟩ := bind_some H
         refine cl ha (by rfl) (by kernel_rfl) (by rfl) (by rfl) (by rfl) (Pool_Of.walk w99 _ hM gO6 L6 t99.2 fO6 (fun _ h => mr (ml h)) a3 _ H107) ?_
         rintro _ w107 ⟨rfl, hc107, hMn⟩ a ha
         have o1 : Ok [] ([g36] ++ (L6 ++ (M))) w99.heap.size := Ok.nil _ _
         have o2 : Ok ([g36] ++ (L6 ++ (M))) ([g36] ++ (L6 ++ (M))) w99.heap.size := (Ok.refl _ _)
         have f1 := f1.chg hc107 o1 o2
         have hBg36 := hBg36.chg hc107 (fun h => nomatch h)
         have fO6 := fO6.chg hc107 (fun _ _ h => nomatch h)
         have hM : MS ([g36] ++ (L6 ++ (M))) w107 := (hM.chg hc107)
         have hC := hC.trans hc107 (Ok.nil _ _)
         refine seg ha 5 [(0, .int .i64 a0), (1, .int .i64 a1), (2, .slice ao1 a2.length cap1), (3, .string (bstr a3)), (10, .pointer (some ⟨gO6, 0, none⟩)), (12, .int .i64 (0 : Int)), (13, .int .i64 x21), (22, .int .i64 t107.1), (23, .bool t107.2)] (by kernel_rfl) fun a ha => ?_
         refine hK106 _ _ ?_; try clear hK106 K106
         refine wp_seq_k fun K108 hK108 => ?_
         refine wp_region_lit ?_
         obtain ⟨s109, H109, H⟩ := bind_some H
         have J109 : ∀ (a : Act) (w109 : World), Has a Try.f5.ntmps [(0, .int .i64 a0), (1, .int .i64 a1), (2, .slice ao1 a2.length cap1), (3, .string (bstr a3)), (10, .pointer (some ⟨gO6, 0, none⟩)), (12, .int .i64 (0 : Int)), (13, .int .i64 x21), (174, .bool s109)] → (RSl rS_vinerylaw05_Act 36 w109 ([g36] ++ (L6 ++ (M))) ao1 cap1 a2) → (Box w109 g36 (cS_vinerylaw05_Act (rd a2 x21))) → (PoolAt w109 gO6 L6 t99.2) → (Chg [] w w109) → (MS ([g36] ++ (L6 ++ (M))) w109) → K108 a w109 := by
          intro a w109 ha f1 hBg36 fO6 hC hM
          refine hK108 _ _ ?_; try clear hK108 K108
          refine cnd ha rfl (fun hc110 => ?_) (fun hc110 => ?_)
          ·have H := ite_t hc110 H
           refine wp_seq_k fun K111 hK111 => ?_
           refine wp_region_lit ?_
           refine seg ha 1 [(8, .bool false)] (by kernel_rfl) fun a ha => ?_
           refine hK111 _ _ ?_; try clear hK111 K111
           refine wp_ret ?_
           try simp only [Exit.then, Exit.inBlock]
           have hBg36 := hBg36.chg (Chg.refl [] _) (fun h => nomatch h)
           have hM : MS (M) w109 := (fun x h => hM.chg (Chg.refl [] _) x (mr (mr (h))))
           have hC := hC.trans (Chg.refl [] _) (Ok.nil _ _)
           obtain rfl := Option.some.inj H
           have H := (show some _ = some _ from Hc18)
           obtain rfl := Option.some.inj H
           refine rt1 ha rfl rfl ?_
           exact ⟨rfl, hC, hM⟩
          ·have H := ite_f hc110 H
           refine wp_skip ?_
           refine hK26 _ _ ?_; try clear hK26 K26
           refine wp_region_lit ?_
           refine seg ha 3 [(0, .int .i64 a0), (1, .int .i64 a1), (2, .slice ao1 a2.length cap1), (3, .string (bstr a3)), (10, .pointer (some ⟨gO6, 0, none⟩)), (12, .int .i64 (0 : Int)), (13, .int .i64 (IntKind.i64.wrap (x21 + (1 : Int))))] (by kernel_rfl) fun a ha => ?_
           have o1 : Ok [] ([g36] ++ (L6 ++ (M))) w109.heap.size := Ok.nil _ _
           have o2 : Ok (L6 ++ (M)) ([g36] ++ (L6 ++ (M))) w109.heap.size := (fun _ h => .inl (mr (h)))
           have f1 := f1.chg (Chg.refl [] _) o1 o2
           have hBg36 := hBg36.chg (Chg.refl [] _) (fun h => nomatch h)
           have fO6 := fO6.chg (Chg.refl [] _) (fun _ _ h => nomatch h)
           have hM : MS (L6 ++ (M)) w109 := (fun x h => hM.chg (Chg.refl [] _) x (mr (h)))
           have hC := hC.trans (Chg.refl [] _) (Ok.nil _ _)
           exact ⟨kk, Nat.lt_succ_self _, ⟨t99.2, (0 : Int), IntKind.i64.wrap (x21 + (1 : Int)), H, (ha.sel (by kernel_rfl)), f1, fO6, hC, hM⟩⟩
         have H := H109
         refine seg ha 5 [(164, .bool (!(t107.2 == ((0 : Int) != (0 : Int))))), (0, .int .i64 a0), (1, .int .i64 a1), (2, .slice ao1 a2.length cap1), (3, .string (bstr a3)), (10, .pointer (some ⟨gO6, 0, none⟩)), (12, .int .i64 (0 : Int)), (13, .int .i64 x21), (22, .int .i64 t107.1)] (by kernel_rfl) fun a ha => ?_
         rcases Bool.eq_false_or_eq_true (!(t107.2 == ((0 : Int) != (0 : Int)))) with hb112 | hb112
         ·have ha := ha.lit hb112
          have H := ite_t hb112 H
          refine sgh ha 10 [1, 1, 1, 3, 0, 1, 1, 1, 1, 3] [(0, .int .i64 a0), (1, .int .i64 a1), (2, .slice ao1 a2.length cap1), (3, .string (bstr a3)), (10, .pointer (some ⟨gO6, 0, none⟩)), (12, .int .i64 (0 : Int)), (13, .int .i64 x21), (174, .bool true)] (by kernel_rfl) fun a ha => ?_
          obtain rfl := Option.some.inj H
          exact J109 _ _ (ha.sel (by kernel_rfl)) f1 hBg36 fO6 hC hM
         ·have ha := ha.lit hb112
          have H := ite_f hb112 H
          refine sgh ha 5 [2, 2, 2, 4, 0] [(169, .bool (t107.1 != (0 : Int))), (0, .int .i64 a0), (1, .int .i64 a1), (2, .slice ao1 a2.length cap1), (3, .string (bstr a3)), (10, .pointer (some ⟨gO6, 0, none⟩)), (12, .int .i64 (0 : Int)), (13, .int .i64 x21)] (by kernel_rfl) fun a ha => ?_
          rcases Bool.eq_false_or_eq_true (t107.1 != (0 : Int)) with hb113 | hb113
          ·have ha := ha.lit hb113
           have H := ite_t hb113 H
           refine sgh ha 5 [1, 1, 1, 1, 3] [(0, .int .i64 a0), (1, .int .i64 a1), (2, .slice ao1 a2.length cap1), (3, .string (bstr a3)), (10, .pointer (some ⟨gO6, 0, none⟩)), (12, .int .i64 (0 : Int)), (13, .int .i64 x21), (174, .bool true)] (by kernel_rfl) fun a ha => ?_
           obtain rfl := Option.some.inj H
           exact J109 _ _ (ha.sel (by kernel_rfl)) f1 hBg36 fO6 hC hM
          ·have ha := ha.lit hb113
           have H := ite_f hb113 H
           refine sgh ha 1 [2] [(0, .int .i64 a0), (1, .int .i64 a1), (2, .slice ao1 a2.length cap1), (3, .string (bstr a3)), (10, .pointer (some ⟨gO6, 0, none⟩)), (12, .int .i64 (0 : Int)), (13, .int .i64 x21), (169, .bool false), (170, .pointer (some ⟨gO6, 0, none⟩))] (by kernel_rfl) fun a ha => ?_
           obtain ⟨t114, H114, H⟩ := bind_some H
           refine cl ha (by rfl) (by kernel_rfl) (by rfl) (by rfl) (by rfl) (Pool_Count.walk w107 _ hM gO6 L6 t99.2 fO6 (fun _ h => mr (ml h)) _ H114) ?_
           rintro _ w114 ⟨rfl, hc114, hMn⟩ a ha
           have o1 : Ok [] ([g36] ++ (L6 ++ (M))) w107.heap.size := Ok.nil _ _
           have o2 : Ok ([g36] ++ (L6 ++ (M))) ([g36] ++ (L6 ++ (M))) w107.heap.size := (Ok.refl _ _)
           have f1 := f1.chg hc114 o1 o2
           have hBg36 := hBg36.chg hc114 (fun h => nomatch h)
           have fO6 := fO6.chg hc114 (fun _ _ h => nomatch h)
           have hM : MS ([g36] ++ (L6 ++ (M))) w114 := (hM.chg hc114)
           have hC := hC.trans hc114 (Ok.nil _ _)
           refine sgh ha 3 [2, 2, 4] [(0, .int .i64 a0), (1, .int .i64 a1), (2, .slice ao1 a2.length cap1), (3, .string (bstr a3)), (10, .pointer (some ⟨gO6, 0, none⟩)), (12, .int .i64 (0 : Int)), (13, .int .i64 x21), (174, .bool (decide (t114 > a1)))] (by kernel_rfl) fun a ha => ?_
           obtain rfl := Option.some.inj H
           exact J109 _ _ (ha.sel (by kernel_rfl)) f1 hBg36 fO6 hC hM
       ·have H := ite_f hc101 H
        refine wp_skip ?_
        refine hK41 _ _ ?_; try clear hK41 K41
        refine wp_seq_k fun K115 hK115 => ?_
        refine wp_region_lit ?_
        refine seg ha 2 [(0, .int .i64 a0), (1, .int .i64 a1), (2, .slice ao1 a2.length cap1), (3, .string (bstr a3)), (10, .pointer (some ⟨gO6, 0, none⟩)), (12, .int .i64 x20), (13, .int .i64 x21), (155, .pointer (some ⟨gO6, 0, none⟩)), (156, .string (bstr a3))] (by kernel_rfl) fun a ha => ?_
        obtain ⟨t116, H116, H⟩ := bind_some H
        refine cl ha (by rfl) (by kernel_rfl) (by rfl) (by rfl) (by rfl) (Pool_Of.walk w99 _ hM gO6 L6 t99.2 fO6 (fun _ h => mr (ml h)) a3 _ H116) ?_
        rintro _ w116 ⟨rfl, hc116, hMn⟩ a ha
        have o1 : Ok [] ([g36] ++ (L6 ++ (M))) w99.heap.size := Ok.nil _ _
        have o2 : Ok ([g36] ++ (L6 ++ (M))) ([g36] ++ (L6 ++ (M))) w99.heap.size := (Ok.refl _ _)
        have f1 := f1.chg hc116 o1 o2
        have hBg36 := hBg36.chg hc116 (fun h => nomatch h)
        have fO6 := fO6.chg hc116 (fun _ _ h => nomatch h)
        have hM : MS ([g36] ++ (L6 ++ (M))) w116 := (hM.chg hc116)
        have hC := hC.trans hc116 (Ok.nil _ _)
        refine seg ha 5 [(0, .int .i64 a0), (1, .int .i64 a1), (2, .slice ao1 a2.length cap1), (3, .string (bstr a3)), (10, .pointer (some ⟨gO6, 0, none⟩)), (12, .int .i64 x20), (13, .int .i64 x21), (22, .int .i64 t116.1), (23, .bool t116.2)] (by kernel_rfl) fun a ha => ?_
        refine hK115 _ _ ?_; try clear hK115 K115
        refine wp_seq_k fun K117 hK117 => ?_
        refine wp_region_lit ?_
        obtain ⟨s118, H118, H⟩ := bind_some H
        have J118 : ∀ (a : Act) (w118 : World), Has a Try.f5.ntmps [(0, .int .i64 a0), (1, .int .i64 a1), (2, .slice ao1 a2.length cap1), (3, .string (bstr a3)), (10, .pointer (some ⟨gO6, 0, none⟩)), (12, .int .i64 x20), (13, .int .i64 x21), (174, .bool s118)] → (RSl rS_vinerylaw05_Act 36 w118 ([g36] ++ (L6 ++ (M))) ao1 cap1 a2) → (Box w118 g36 (cS_vinerylaw05_Act (rd a2 x21))) → (PoolAt w118 gO6 L6 t99.2) → (Chg [] w w118) → (MS ([g36] ++ (L6 ++ (M))) w118) → K117 a w118 := by
         intro a w118 ha f1 hBg36 fO6 hC hM
         refine hK117 _ _ ?_; try clear hK117 K117
         refine cnd ha rfl (fun hc119 => ?_) (fun hc119 => ?_)
         ·have H := ite_t hc119 H
          refine wp_seq_k fun K120 hK120 => ?_
          refine wp_region_lit ?_
          refine seg ha 1 [(8, .bool false)] (by kernel_rfl) fun a ha => ?_
          refine hK120 _ _ ?_; try clear hK120 K120
          refine wp_ret ?_
          try simp only [Exit.then, Exit.inBlock]
          have hBg36 := hBg36.chg (Chg.refl [] _) (fun h => nomatch h)
          have hM : MS (M) w118 := (fun x h => hM.chg (Chg.refl [] _) x (mr (mr (h))))
          have hC := hC.trans (Chg.refl [] _) (Ok.nil _ _)
          obtain rfl := Option.some.inj H
          have H := (show some _ = some _ from Hc18)
          obtain rfl := Option.some.inj H
          refine rt1 ha rfl rfl ?_
          exact ⟨rfl, hC, hM⟩
         ·have H := ite_f hc119 H
          refine wp_skip ?_
          refine hK26 _ _ ?_; try clear hK26 K26
          refine wp_region_lit ?_
          refine seg ha 3 [(0, .int .i64 a0), (1, .int .i64 a1), (2, .slice ao1 a2.length cap1), (3, .string (bstr a3)), (10, .pointer (some ⟨gO6, 0, none⟩)), (12, .int .i64 x20), (13, .int .i64 (IntKind.i64.wrap (x21 + (1 : Int))))] (by kernel_rfl) fun a ha => ?_
          have o1 : Ok [] ([g36] ++ (L6 ++ (M))) w118.heap.size := Ok.nil _ _
          have o2 : Ok (L6 ++ (M)) ([g36] ++ (L6 ++ (M))) w118.heap.size := (fun _ h => .inl (mr (h)))
          have f1 := f1.chg (Chg.refl [] _) o1 o2
          have hBg36 := hBg36.chg (Chg.refl [] _) (fun h => nomatch h)
          have fO6 := fO6.chg (Chg.refl [] _) (fun _ _ h => nomatch h)
          have hM : MS (L6 ++ (M)) w118 := (fun x h => hM.chg (Chg.refl [] _) x (mr (h)))
          have hC := hC.trans (Chg.refl [] _) (Ok.nil _ _)
          exact ⟨kk, Nat.lt_succ_self _, ⟨t99.2, x20, IntKind.i64.wrap (x21 + (1 : Int)), H, (ha.sel (by kernel_rfl)), f1, fO6, hC, hM⟩⟩
        have H := H118
        refine seg ha 5 [(164, .bool (!(t116.2 == (x20 != (0 : Int))))), (0, .int .i64 a0), (1, .int .i64 a1), (2, .slice ao1 a2.length cap1), (3, .string (bstr a3)), (10, .pointer (some ⟨gO6, 0, none⟩)), (12, .int .i64 x20), (13, .int .i64 x21), (22, .int .i64 t116.1)] (by kernel_rfl) fun a ha => ?_
        rcases Bool.eq_false_or_eq_true (!(t116.2 == (x20 != (0 : Int)))) with hb121 | hb121
        ·have ha := ha.lit hb121
         have H := ite_t hb121 H
         refine sgh ha 10 [1, 1, 1, 3, 0, 1, 1, 1, 1, 3] [(0, .int .i64 a0), (1, .int .i64 a1), (2, .slice ao1 a2.length cap1), (3, .string (bstr a3)), (10, .pointer (some ⟨gO6, 0, none⟩)), (12, .int .i64 x20), (13, .int .i64 x21), (174, .bool true)] (by kernel_rfl) fun a ha => ?_
         obtain rfl := Option.some.inj H
         exact J118 _ _ (ha.sel (by kernel_rfl)) f1 hBg36 fO6 hC hM
        ·have ha := ha.lit hb121
         have H := ite_f hb121 H
         refine sgh ha 5 [2, 2, 2, 4, 0] [(169, .bool (t116.1 != x20)), (0, .int .i64 a0), (1, .int .i64 a1), (2, .slice ao1 a2.length cap1), (3, .string (bstr a3)), (10, .pointer (some ⟨gO6, 0, none⟩)), (12, .int .i64 x20), (13, .int .i64 x21)] (by kernel_rfl) fun a ha => ?_
         rcases Bool.eq_false_or_eq_true (t116.1 != x20) with hb122 | hb122
         ·have ha := ha.lit hb122
          have H := ite_t hb122 H
          refine sgh ha 5 [1, 1, 1, 1, 3] [(0, .int .i64 a0), (1, .int .i64 a1), (2, .slice ao1 a2.length cap1), (3, .string (bstr a3)), (10, .pointer (some ⟨gO6, 0, none⟩)), (12, .int .i64 x20), (13, .int .i64 x21), (174, .bool true)] (by kernel_rfl) fun a ha => ?_
          obtain rfl := Option.some.inj H
          exact J118 _ _ (ha.sel (by kernel_rfl)) f1 hBg36 fO6 hC hM
         ·have ha := ha.lit hb122
          have H := ite_f hb122 H
          refine sgh ha 1 [2] [(0, .int .i64 a0), (1, .int .i64 a1), (2, .slice ao1 a2.length cap1), (3, .string (bstr a3)), (10, .pointer (some ⟨gO6, 0, none⟩)), (12, .int .i64 x20), (13, .int .i64 x21), (169, .bool false), (170, .pointer (some ⟨gO6, 0, none⟩))] (by kernel_rfl) fun a ha => ?_
          obtain ⟨t123, H123, H⟩ := bind_some H
          refine cl ha (by rfl) (by kernel_rfl) (by rfl) (by rfl) (by rfl) (Pool_Count.walk w116 _ hM gO6 L6 t99.2 fO6 (fun _ h => mr (ml h)) _ H123) ?_
          rintro _ w123 ⟨rfl, hc123, hMn⟩ a ha
          have o1 : Ok [] ([g36] ++ (L6 ++ (M))) w116.heap.size := Ok.nil _ _
          have o2 : Ok ([g36] ++ (L6 ++ (M))) ([g36] ++ (L6 ++ (M))) w116.heap.size := (Ok.refl _ _)
          have f1 := f1.chg hc123 o1 o2
          have hBg36 := hBg36.chg hc123 (fun h => nomatch h)
          have fO6 := fO6.chg hc123 (fun _ _ h => nomatch h)
          have hM : MS ([g36] ++ (L6 ++ (M))) w123 := (hM.chg hc123)
          have hC := hC.trans hc123 (Ok.nil _ _)
          refine sgh ha 3 [2, 2, 4] [(0, .int .i64 a0), (1, .int .i64 a1), (2, .slice ao1 a2.length cap1), (3, .string (bstr a3)), (10, .pointer (some ⟨gO6, 0, none⟩)), (12, .int .i64 x20), (13, .int .i64 x21), (174, .bool (decide (t123 > a1)))] (by kernel_rfl) fun a ha => ?_
          obtain rfl := Option.some.inj H
          exact J118 _ _ (ha.sel (by kernel_rfl)) f1 hBg36 fO6 hC hM
      ·have H := ite_f hc97 H
       refine wp_seq_k fun K124 hK124 => ?_
       refine wp_region_lit ?_
       refine seg ha 2 [(0, .int .i64 a0), (1, .int .i64 a1), (2, .slice ao1 a2.length cap1), (3, .string (bstr a3)), (10, .pointer (some ⟨gO6, 0, none⟩)), (12, .int .i64 x20), (13, .int .i64 x21), (150, .bool (((rd a2 x21).Do) == (4 : Int)))] (by kernel_rfl) fun a ha => ?_
       refine hK124 _ _ ?_; try clear hK124 K124
       refine cnd ha rfl (fun hc125 => ?_) (fun hc125 => ?_)
       ·have H := ite_t hc125 H
        refine wp_seq_k fun K126 hK126 => ?_
        refine wp_region_lit ?_
        refine seg ha 1 [(0, .int .i64 a0), (1, .int .i64 a1), (2, .slice ao1 a2.length cap1), (3, .string (bstr a3)), (10, .pointer (some ⟨gO6, 0, none⟩)), (13, .int .i64 x21), (152, .pointer (some ⟨gO6, 0, none⟩))] (by kernel_rfl) fun a ha => ?_
        obtain ⟨t127, H127, H⟩ := bind_some H
        refine cl ha (by rfl) (by kernel_rfl) (by rfl) (by rfl) (by rfl) (Pool_Clear.walk w39 _ hM gO6 L6 x19 fO6 (fun _ h => mr (ml h)) _ H127) ?_
        rintro _ w127 ⟨rfl, nf127, hc127, hMn⟩ a ha
        have o1 : Ok L6 ([g36] ++ (L6 ++ (M))) w39.heap.size := (fun _ h => .inl (mr (ml h)))
        have o2 : Ok ([g36] ++ (L6 ++ (M))) ([g36] ++ (L6 ++ (M))) w39.heap.size := (Ok.refl _ _)
        have f1 := f1.chg hc127 o1 o2
        have hBg36 := hBg36.chg hc127 (p_i38_i6 g36 (by simp))
        have hM : MS ([g36] ++ (L6 ++ (M))) w127 := (hM.chg hc127)
        have hC := hC.trans hc127 (fun x h => .inr (e_i6 x h))
        have fO6 := nf127
        refine hK126 _ _ ?_; try clear hK126 K126
        refine wp_region_lit ?_
        refine seg ha 1 [(0, .int .i64 a0), (1, .int .i64 a1), (2, .slice ao1 a2.length cap1), (3, .string (bstr a3)), (10, .pointer (some ⟨gO6, 0, none⟩)), (12, .int .i64 (0 : Int)), (13, .int .i64 x21)] (by kernel_rfl) fun a ha => ?_
        refine hK41 _ _ ?_; try clear hK41 K41
        refine wp_seq_k fun K128 hK128 => ?_
        refine wp_region_lit ?_
        refine seg ha 2 [(0, .int .i64 a0), (1, .int .i64 a1), (2, .slice ao1 a2.length cap1), (3, .string (bstr a3)), (10, .pointer (some ⟨gO6, 0, none⟩)), (12, .int .i64 (0 : Int)), (13, .int .i64 x21), (155, .pointer (some ⟨gO6, 0, none⟩)), (156, .string (bstr a3))] (by kernel_rfl) fun a ha => ?_
        obtain ⟨t129, H129, H⟩ := bind_some H
        refine cl ha (by rfl) (by kernel_rfl) (by rfl) (by rfl) (by rfl) (Pool_Of.walk w127 _ hM gO6 L6 t127 fO6 (fun _ h => mr (ml h)) a3 _ H129) ?_
        rintro _ w129 ⟨rfl, hc129, hMn⟩ a ha
        have o1 : Ok [] ([g36] ++ (L6 ++ (M))) w127.heap.size := Ok.nil _ _
        have o2 : Ok ([g36] ++ (L6 ++ (M))) ([g36] ++ (L6 ++ (M))) w127.heap.size := (Ok.refl _ _)
        have f1 := f1.chg hc129 o1 o2
        have hBg36 := hBg36.chg hc129 (fun h => nomatch h)
        have fO6 := fO6.chg hc129 (fun _ _ h => nomatch h)
        have hM : MS ([g36] ++ (L6 ++ (M))) w129 := (hM.chg hc129)
        have hC := hC.trans hc129 (Ok.nil _ _)
        refine seg ha 5 [(0, .int .i64 a0), (1, .int .i64 a1), (2, .slice ao1 a2.length cap1), (3, .string (bstr a3)), (10, .pointer (some ⟨gO6, 0, none⟩)), (12, .int .i64 (0 : Int)), (13, .int .i64 x21), (22, .int .i64 t129.1), (23, .bool t129.2)] (by kernel_rfl) fun a ha => ?_
        refine hK128 _ _ ?_; try clear hK128 K128
        refine wp_seq_k fun K130 hK130 => ?_
        refine wp_region_lit ?_
        obtain ⟨s131, H131, H⟩ := bind_some H
        have J131 : ∀ (a : Act) (w131 : World), Has a Try.f5.ntmps [(0, .int .i64 a0), (1, .int .i64 a1), (2, .slice ao1 a2.length cap1), (3, .string (bstr a3)), (10, .pointer (some ⟨gO6, 0, none⟩)), (12, .int .i64 (0 : Int)), (13, .int .i64 x21), (174, .bool s131)] → (RSl rS_vinerylaw05_Act 36 w131 ([g36] ++ (L6 ++ (M))) ao1 cap1 a2) → (Box w131 g36 (cS_vinerylaw05_Act (rd a2 x21))) → (PoolAt w131 gO6 L6 t127) → (Chg [] w w131) → (MS ([g36] ++ (L6 ++ (M))) w131) → K130 a w131 := by
         intro a w131 ha f1 hBg36 fO6 hC hM
         refine hK130 _ _ ?_; try clear hK130 K130
         refine cnd ha rfl (fun hc132 => ?_) (fun hc132 => ?_)
         ·have H := ite_t hc132 H
          refine wp_seq_k fun K133 hK133 => ?_
          refine wp_region_lit ?_
          refine seg ha 1 [(8, .bool false)] (by kernel_rfl) fun a ha => ?_
          refine hK133 _ _ ?_; try clear hK133 K133
          refine wp_ret ?_
          try simp only [Exit.then, Exit.inBlock]
          have hBg36 := hBg36.chg (Chg.refl [] _) (fun h => nomatch h)
          have hM : MS (M) w131 := (fun x h => hM.chg (Chg.refl [] _) x (mr (mr (h))))
          have hC := hC.trans (Chg.refl [] _) (Ok.nil _ _)
          obtain rfl := Option.some.inj H
          have H := (show some _ = some _ from Hc18)
          obtain rfl := Option.some.inj H
          refine rt1 ha rfl rfl ?_
          exact ⟨rfl, hC, hM⟩
         ·have H := ite_f hc132 H
          refine wp_skip ?_
          refine hK26 _ _ ?_; try clear hK26 K26
          refine wp_region_lit ?_
          refine seg ha 3 [(0, .int .i64 a0), (1, .int .i64 a1), (2, .slice ao1 a2.length cap1), (3, .string (bstr a3)), (10, .pointer (some ⟨gO6, 0, none⟩)), (12, .int .i64 (0 : Int)), (13, .int .i64 (IntKind.i64.wrap (x21 + (1 : Int))))] (by kernel_rfl) fun a ha => ?_
          have o1 : Ok [] ([g36] ++ (L6 ++ (M))) w131.heap.size := Ok.nil _ _
          have o2 : Ok (L6 ++ (M)) ([g36] ++ (L6 ++ (M))) w131.heap.size := (fun _ h => .inl (mr (h)))
          have f1 := f1.chg (Chg.refl [] _) o1 o2
          have hBg36 := hBg36.chg (Chg.refl [] _) (fun h => nomatch h)
          have fO6 := fO6.chg (Chg.refl [] _) (fun _ _ h => nomatch h)
          have hM : MS (L6 ++ (M)) w131 := (fun x h => hM.chg (Chg.refl [] _) x (mr (h)))
          have hC := hC.trans (Chg.refl [] _) (Ok.nil _ _)
          exact ⟨kk, Nat.lt_succ_self _, ⟨t127, (0 : Int), IntKind.i64.wrap (x21 + (1 : Int)), H, (ha.sel (by kernel_rfl)), f1, fO6, hC, hM⟩⟩
        have H := H131
        refine seg ha 5 [(164, .bool (!(t129.2 == ((0 : Int) != (0 : Int))))), (0, .int .i64 a0), (1, .int .i64 a1), (2, .slice ao1 a2.length cap1), (3, .string (bstr a3)), (10, .pointer (some ⟨gO6, 0, none⟩)), (12, .int .i64 (0 : Int)), (13, .int .i64 x21), (22, .int .i64 t129.1)] (by kernel_rfl) fun a ha => ?_
        rcases Bool.eq_false_or_eq_true (!(t129.2 == ((0 : Int) != (0 : Int)))) with hb134 | hb134
        ·have ha := ha.lit hb134
         have H := ite_t hb134 H
         refine sgh ha 10 [1, 1, 1, 3, 0, 1, 1, 1, 1, 3] [(0, .int .i64 a0), (1, .int .i64 a1), (2, .slice ao1 a2.length cap1), (3, .string (bstr a3)), (10, .pointer (some ⟨gO6, 0, none⟩)), (12, .int .i64 (0 : Int)), (13, .int .i64 x21), (174, .bool true)] (by kernel_rfl) fun a ha => ?_
         obtain rfl := Option.some.inj H
         exact J131 _ _ (ha.sel (by kernel_rfl)) f1 hBg36 fO6 hC hM
        ·have ha := ha.lit hb134
         have H := ite_f hb134 H
         refine sgh ha 5 [2, 2, 2, 4, 0] [(169, .bool (t129.1 != (0 : Int))), (0, .int .i64 a0), (1, .int .i64 a1), (2, .slice ao1 a2.length cap1), (3, .string (bstr a3)), (10, .pointer (some ⟨gO6, 0, none⟩)), (12, .int .i64 (0 : Int)), (13, .int .i64 x21)] (by kernel_rfl) fun a ha => ?_
         rcases Bool.eq_false_or_eq_true (t129.1 != (0 : Int)) with hb135 | hb135
         ·have ha := ha.lit hb135
          have H := ite_t hb135 H
          refine sgh ha 5 [1, 1, 1, 1, 3] [(0, .int .i64 a0), (1, .int .i64 a1), (2, .slice ao1 a2.length cap1), (3, .string (bstr a3)), (10, .pointer (some ⟨gO6, 0, none⟩)), (12, .int .i64 (0 : Int)), (13, .int .i64 x21), (174, .bool true)] (by kernel_rfl) fun a ha => ?_
          obtain rfl := Option.some.inj H
          exact J131 _ _ (ha.sel (by kernel_rfl)) f1 hBg36 fO6 hC hM
         ·have ha := ha.lit hb135
          have H := ite_f hb135 H
          refine sgh ha 1 [2] [(0, .int .i64 a0), (1, .int .i64 a1), (2, .slice ao1 a2.length cap1), (3, .string (bstr a3)), (10, .pointer (some ⟨gO6, 0, none⟩)), (12, .int .i64 (0 : Int)), (13, .int .i64 x21), (169, .bool false), (170, .pointer (some ⟨gO6, 0, none⟩))] (by kernel_rfl) fun a ha => ?_
          obtain ⟨t136, H136, H⟩ := bind_some H
          refine cl ha (by rfl) (by kernel_rfl) (by rfl) (by rfl) (by rfl) (Pool_Count.walk w129 _ hM gO6 L6 t127 fO6 (fun _ h => mr (ml h)) _ H136) ?_
          rintro _ w136 ⟨rfl, hc136, hMn⟩ a ha
          have o1 : Ok [] ([g36] ++ (L6 ++ (M))) w129.heap.size := Ok.nil _ _
          have o2 : Ok ([g36] ++ (L6 ++ (M))) ([g36] ++ (L6 ++ (M))) w129.heap.size := (Ok.refl _ _)
          have f1 := f1.chg hc136 o1 o2
          have hBg36 := hBg36.chg hc136 (fun h => nomatch h)
          have fO6 := fO6.chg hc136 (fun _ _ h => nomatch h)
          have hM : MS ([g36] ++ (L6 ++ (M))) w136 := (hM.chg hc136)
          have hC := hC.trans hc136 (Ok.nil _ _)
          refine sgh ha 3 [2, 2, 4] [(0, .int .i64 a0), (1, .int .i64 a1), (2, .slice ao1 a2.length cap1), (3, .string (bstr a3)), (10, .pointer (some ⟨gO6, 0, none⟩)), (12, .int .i64 (0 : Int)), (13, .int .i64 x21), (174, .bool (decide (t136 > a1)))] (by kernel_rfl) fun a ha => ?_
          obtain rfl := Option.some.inj H
          exact J131 _ _ (ha.sel (by kernel_rfl)) f1 hBg36 fO6 hC hM
       ·have H := ite_f hc125 H
        refine wp_skip ?_
        refine hK41 _ _ ?_; try clear hK41 K41
        refine wp_seq_k fun K137 hK137 => ?_
        refine wp_region_lit ?_
        refine seg ha 2 [(0, .int .i64 a0), (1, .int .i64 a1), (2, .slice ao1 a2.length cap1), (3, .string (bstr a3)), (10, .pointer (some ⟨gO6, 0, none⟩)), (12, .int .i64 x20), (13, .int .i64 x21), (155, .pointer (some ⟨gO6, 0, none⟩)), (156, .string (bstr a3))] (by kernel_rfl) fun a ha => ?_
        obtain ⟨t138, H138, H⟩ := bind_some H
        refine cl ha (by rfl) (by kernel_rfl) (by rfl) (by rfl) (by rfl) (Pool_Of.walk w39 _ hM gO6 L6 x19 fO6 (fun _ h => mr (ml h)) a3 _ H138) ?_
        rintro _ w138 ⟨rfl, hc138, hMn⟩ a ha
        have o1 : Ok [] ([g36] ++ (L6 ++ (M))) w39.heap.size := Ok.nil _ _
        have o2 : Ok ([g36] ++ (L6 ++ (M))) ([g36] ++ (L6 ++ (M))) w39.heap.size := (Ok.refl _ _)
        have f1 := f1.chg hc138 o1 o2
        have hBg36 := hBg36.chg hc138 (fun h => nomatch h)
        have fO6 := fO6.chg hc138 (fun _ _ h => nomatch h)
        have hM : MS ([g36] ++ (L6 ++ (M))) w138 := (hM.chg hc138)
        have hC := hC.trans hc138 (Ok.nil _ _)
        refine seg ha 5 [(0, .int .i64 a0), (1, .int .i64 a1), (2, .slice ao1 a2.length cap1), (3, .string (bstr a3)), (10, .pointer (some ⟨gO6, 0, none⟩)), (12, .int .i64 x20), (13, .int .i64 x21), (22, .int .i64 t138.1), (23, .bool t138.2)] (by kernel_rfl) fun a ha => ?_
        refine hK137 _ _ ?_; try clear hK137 K137
        refine wp_seq_k fun K139 hK139 => ?_
        refine wp_region_lit ?_
        obtain ⟨s140, H140, H⟩ := bind_some H
        have J140 : ∀ (a : Act) (w140 : World), Has a Try.f5.ntmps [(0, .int .i64 a0), (1, .int .i64 a1), (2, .slice ao1 a2.length cap1), (3, .string (bstr a3)), (10, .pointer (some ⟨gO6, 0, none⟩)), (12, .int .i64 x20), (13, .int .i64 x21), (174, .bool s140)] → (RSl rS_vinerylaw05_Act 36 w140 ([g36] ++ (L6 ++ (M))) ao1 cap1 a2) → (Box w140 g36 (cS_vinerylaw05_Act (rd a2 x21))) → (PoolAt w140 gO6 L6 x19) → (Chg [] w w140) → (MS ([g36] ++ (L6 ++ (M))) w140) → K139 a w140 := by
         intro a w140 ha f1 hBg36 fO6 hC hM
         refine hK139 _ _ ?_; try clear hK139 K139
         refine cnd ha rfl (fun hc141 => ?_) (fun hc141 => ?_)
         ·have H := ite_t hc141 H
          refine wp_seq_k fun K142 hK142 => ?_
          refine wp_region_lit ?_
          refine seg ha 1 [(8, .bool false)] (by kernel_rfl) fun a ha => ?_
          refine hK142 _ _ ?_; try clear hK142 K142
          refine wp_ret ?_
          try simp only [Exit.then, Exit.inBlock]
          have hBg36 := hBg36.chg (Chg.refl [] _) (fun h => nomatch h)
          have hM : MS (M) w140 := (fun x h => hM.chg (Chg.refl [] _) x (mr (mr (h))))
          have hC := hC.trans (Chg.refl [] _) (Ok.nil _ _)
          obtain rfl := Option.some.inj H
          have H := (show some _ = some _ from Hc18)
          obtain rfl := Option.some.inj H
          refine rt1 ha rfl rfl ?_
          exact ⟨rfl, hC, hM⟩
         ·have H := ite_f hc141 H
          refine wp_skip ?_
          refine hK26 _ _ ?_; try clear hK26 K26
          refine wp_region_lit ?_
          refine seg ha 3 [(0, .int .i64 a0), (1, .int .i64 a1), (2, .slice ao1 a2.length cap1), (3, .string (bstr a3)), (10, .pointer (some ⟨gO6, 0, none⟩)), (12, .int .i64 x20), (13, .int .i64 (IntKind.i64.wrap (x21 + (1 : Int))))] (by kernel_rfl) fun a ha => ?_
          have o1 : Ok [] ([g36] ++ (L6 ++ (M))) w140.heap.size := Ok.nil _ _
          have o2 : Ok (L6 ++ (M)) ([g36] ++ (L6 ++ (M))) w140.heap.size := (fun _ h => .inl (mr (h)))
          have f1 := f1.chg (Chg.refl [] _) o1 o2
          have hBg36 := hBg36.chg (Chg.refl [] _) (fun h => nomatch h)
          have fO6 := fO6.chg (Chg.refl [] _) (fun _ _ h => nomatch h)
          have hM : MS (L6 ++ (M)) w140 := (fun x h => hM.chg (Chg.refl [] _) x (mr (h)))
          have hC := hC.trans (Chg.refl [] _) (Ok.nil _ _)
          exact ⟨kk, Nat.lt_succ_self _, ⟨x19, x20, IntKind.i64.wrap (x21 + (1 : Int)), H, (ha.sel (by kernel_rfl)), f1, fO6, hC, hM⟩⟩
        have H := H140
        refine seg ha 5 [(164, .bool (!(t138.2 == (x20 != (0 : Int))))), (0, .int .i64 a0), (1, .int .i64 a1), (2, .slice ao1 a2.length cap1), (3, .string (bstr a3)), (10, .pointer (some ⟨gO6, 0, none⟩)), (12, .int .i64 x20), (13, .int .i64 x21), (22, .int .i64 t138.1)] (by kernel_rfl) fun a ha => ?_
        rcases Bool.eq_false_or_eq_true (!(t138.2 == (x20 != (0 : Int)))) with hb143 | hb143
        ·have ha := ha.lit hb143
         have H := ite_t hb143 H
         refine sgh ha 10 [1, 1, 1, 3, 0, 1, 1, 1, 1, 3] [(0, .int .i64 a0), (1, .int .i64 a1), (2, .slice ao1 a2.length cap1), (3, .string (bstr a3)), (10, .pointer (some ⟨gO6, 0, none⟩)), (12, .int .i64 x20), (13, .int .i64 x21), (174, .bool true)] (by kernel_rfl) fun a ha => ?_
         obtain rfl := Option.some.inj H
         exact J140 _ _ (ha.sel (by kernel_rfl)) f1 hBg36 fO6 hC hM
        ·have ha := ha.lit hb143
         have H := ite_f hb143 H
         refine sgh ha 5 [2, 2, 2, 4, 0] [(169, .bool (t138.1 != x20)), (0, .int .i64 a0), (1, .int .i64 a1), (2, .slice ao1 a2.length cap1), (3, .string (bstr a3)), (10, .pointer (some ⟨gO6, 0, none⟩)), (12, .int .i64 x20), (13, .int .i64 x21)] (by kernel_rfl) fun a ha => ?_
         rcases Bool.eq_false_or_eq_true (t138.1 != x20) with hb144 | hb144
         ·have ha := ha.lit hb144
          have H := ite_t hb144 H
          refine sgh ha 5 [1, 1, 1, 1, 3] [(0, .int .i64 a0), (1, .int .i64 a1), (2, .slice ao1 a2.length cap1), (3, .string (bstr a3)), (10, .pointer (some ⟨gO6, 0, none⟩)), (12, .int .i64 x20), (13, .int .i64 x21), (174, .bool true)] (by kernel_rfl) fun a ha => ?_
          obtain rfl := Option.some.inj H
          exact J140 _ _ (ha.sel (by kernel_rfl)) f1 hBg36 fO6 hC hM
         ·have ha := ha.lit hb144
          have H := ite_f hb144 H
          refine sgh ha 1 [2] [(0, .int .i64 a0), (1, .int .i64 a1), (2, .slice ao1 a2.length cap1), (3, .string (bstr a3)), (10, .pointer (some ⟨gO6, 0, none⟩)), (12, .int .i64 x20), (13, .int .i64 x21), (169, .bool false), (170, .pointer (some ⟨gO6, 0, none⟩))] (by kernel_rfl) fun a ha => ?_
          obtain ⟨t145, H145, H⟩ := bind_some H
          refine cl ha (by rfl) (by kernel_rfl) (by rfl) (by rfl) (by rfl) (Pool_Count.walk w138 _ hM gO6 L6 x19 fO6 (fun _ h => mr (ml h)) _ H145) ?_
          rintro _ w145 ⟨rfl, hc145, hMn⟩ a ha
          have o1 : Ok [] ([g36] ++ (L6 ++ (M))) w138.heap.size := Ok.nil _ _
          have o2 : Ok ([g36] ++ (L6 ++ (M))) ([g36] ++ (L6 ++ (M))) w138.heap.size := (Ok.refl _ _)
          have f1 := f1.chg hc145 o1 o2
          have hBg36 := hBg36.chg hc145 (fun h => nomatch h)
          have fO6 := fO6.chg hc145 (fun _ _ h => nomatch h)
          have hM : MS ([g36] ++ (L6 ++ (M))) w145 := (hM.chg hc145)
          have hC := hC.trans hc145 (Ok.nil _ _)
          refine sgh ha 3 [2, 2, 4] [(0, .int .i64 a0), (1, .int .i64 a1), (2, .slice ao1 a2.length cap1), (3, .string (bstr a3)), (10, .pointer (some ⟨gO6, 0, none⟩)), (12, .int .i64 x20), (13, .int .i64 x21), (174, .bool (decide (t145 > a1)))] (by kernel_rfl) fun a ha => ?_
          obtain rfl := Option.some.inj H
          exact J140 _ _ (ha.sel (by kernel_rfl)) f1 hBg36 fO6 hC hM
    ·have H := ite_f hc25 H
     refine wp_exit ?_
     simp only [Exit.then, Exit.inBlock, ↓reduceIte, Nat.reduceEqDiff]
     obtain rfl := Option.some.inj H
     have o1 : Ok [] (L6 ++ (M)) w18.heap.size := Ok.nil _ _
     have o2 : Ok (M) (L6 ++ (M)) w18.heap.size := (fun _ h => .inl (mr (h)))
     have f1 := f1.chg (Chg.refl [] _) o1 o2
     have fO6 := fO6.chg (Chg.refl [] _) (fun _ _ h => nomatch h)
     have hM : MS (M) w18 := (fun x h => hM.chg (Chg.refl [] _) x (mr (h)))
     have hC := hC.trans (Chg.refl [] _) (Ok.nil _ _)
     exact J18 _ _ _ rfl (ha.sel (by kernel_rfl)) hC hM
end Go.E
