/- What the functions that the law reaches compute, and the walks that show it. -/
import Derived.Test.YtcimnfdaakedcaaEngO
import Derived.Test.YtcimnfdaakedcaaEngX
import Derived.Test.YtcimnfdaakedcaaProg
set_option linter.unusedVariables false
set_option linter.unusedSimpArgs false
namespace Go.E
open Go.RowKit Go.Proofs
structure S_vinerylaw05_Act where
  Do : Int
  S : List UInt8
  N : Int
  deriving DecidableEq, Inhabited
def cS_vinerylaw05_Act (x : S_vinerylaw05_Act) : List Value := ([.int .i64 x.Do] : List Value) ++ (([.string (bstr x.S)] : List Value) ++ (([.int .i64 x.N] : List Value)))
def rS_vinerylaw05_Act : Rep S_vinerylaw05_Act := rIso (fun x : S_vinerylaw05_Act => (x.Do, (x.S, x.N))) (rPair (rInt .i64) (rPair rStr (rInt .i64)))
theorem rS_vinerylaw05_Act.open {w : World} {M : List Nat} {cs : List Value} {x : S_vinerylaw05_Act} (h : rS_vinerylaw05_Act.R w M cs x) : cs = cS_vinerylaw05_Act x := by
  obtain ⟨c0, k0, e0, h0, ⟨c1, k1, e1, h1, h2⟩⟩ := h
  obtain rfl := h0
  obtain rfl := h1
  obtain rfl := h2
  subst e1
  subst e0
  exact rfl
theorem rS_vinerylaw05_Act.mk {w : World} {M : List Nat} (x : S_vinerylaw05_Act) : rS_vinerylaw05_Act.R w M (cS_vinerylaw05_Act x) x := ⟨_, _, rfl, rfl, ⟨_, _, rfl, rfl, rfl⟩⟩
def okS_vinerylaw05_Act (x : S_vinerylaw05_Act) : Prop := (okI .i64) x.Do ∧ okS x.S ∧ (okI .i64) x.N
structure S_vineryref05_slot where
  is : Bool
  who : List UInt8
  deriving DecidableEq, Inhabited
def cS_vineryref05_slot (x : S_vineryref05_slot) : List Value := ([.bool x.is] : List Value) ++ (([.string (bstr x.who)] : List Value))
def rS_vineryref05_slot : Rep S_vineryref05_slot := rIso (fun x : S_vineryref05_slot => (x.is, x.who)) (rPair rBool rStr)
theorem rS_vineryref05_slot.open {w : World} {M : List Nat} {cs : List Value} {x : S_vineryref05_slot} (h : rS_vineryref05_slot.R w M cs x) : cs = cS_vineryref05_slot x := by
  obtain ⟨c0, k0, e0, h0, h1⟩ := h
  obtain rfl := h0
  obtain rfl := h1
  subst e0
  exact rfl
theorem rS_vineryref05_slot.mk {w : World} {M : List Nat} (x : S_vineryref05_slot) : rS_vineryref05_slot.R w M (cS_vineryref05_slot x) x := ⟨_, _, rfl, rfl, rfl⟩
def okS_vineryref05_slot (x : S_vineryref05_slot) : Prop := okB x.is ∧ okS x.who
structure S_vineryref05_Pool where
  first : Int
  count : Int
  l : List S_vineryref05_slot
  deriving DecidableEq, Inhabited
def cS_vineryref05_Pool (x : S_vineryref05_Pool) (ao1 : Option Addr) (cap1 : Nat) : List Value := ([.int .i64 x.first] : List Value) ++ (([.int .i64 x.count] : List Value) ++ (([.slice ao1 x.l.length cap1] : List Value)))
def rS_vineryref05_Pool : Rep S_vineryref05_Pool := rIso (fun x : S_vineryref05_Pool => (x.first, (x.count, x.l))) (rPair (rInt .i64) (rPair (rInt .i64) (rSl 63 rS_vineryref05_slot)))
theorem rS_vineryref05_Pool.open {w : World} {M : List Nat} {cs : List Value} {x : S_vineryref05_Pool} (h : rS_vineryref05_Pool.R w M cs x) : ∃ (ao1 : Option Addr) (cap1 : Nat), cs = cS_vineryref05_Pool x ao1 cap1 ∧ RSl rS_vineryref05_slot 63 w M ao1 cap1 x.l := by
  obtain ⟨c0, k0, e0, h0, ⟨c1, k1, e1, h1, h2⟩⟩ := h
  obtain rfl := h0
  obtain rfl := h1
  obtain ⟨ao1, cap1, rfl, f1⟩ := h2
  subst e1
  subst e0
  exact ⟨ao1, cap1, rfl, f1⟩
theorem rS_vineryref05_Pool.mk {w : World} {M : List Nat} (x : S_vineryref05_Pool) {ao1 : Option Addr} {cap1 : Nat} (f1 : RSl rS_vineryref05_slot 63 w M ao1 cap1 x.l) : rS_vineryref05_Pool.R w M (cS_vineryref05_Pool x ao1 cap1) x := ⟨_, _, rfl, rfl, ⟨_, _, rfl, rfl, ⟨ao1, cap1, rfl, f1⟩⟩⟩
def okS_vineryref05_Pool (x : S_vineryref05_Pool) : Prop := (okI .i64) x.first ∧ (okI .i64) x.count ∧ (okL 24 (okS_vineryref05_slot)) x.l

def bytes_Clone.f (a0 : List Int) : Option (List Int) := if a0.length ≤ 140737488355328 then some a0 else none
theorem bytes_Clone.walk (w : World) (M : List Nat) (hM : MS M w) (a0 : List Int) (ao1 : Option Addr) (cap1 : Nat) (f1 : RSl (rInt .u8) 5 w M ao1 cap1 a0) (r : List Int) (H : bytes_Clone.f a0 = some r) :
    To Try.prog 36 [.slice ao1 a0.length cap1] w fun v w' => ∃ (ao2 : Option Addr) (cap2 : Nat), v = .slice ao2 r.length cap2 ∧ (Own (rInt .u8) 5 w' (blkL ao2 ++ M) ao2 cap2 r) ∧ (∀ x ∈ blkL ao2, w.heap.size ≤ x) ∧ Chg [] w w' ∧ MS (blkL ao2 ++ M) w' := by
  unfold bytes_Clone.f at H
  obtain ⟨hb, H⟩ := ite_some H
  obtain rfl := Option.some.inj H
  refine ent Try.func36 rfl [(0, .slice ao1 a0.length cap1)] rfl rfl fun a ha => ?_
  refine wp_seq_k fun K hK => ?_
  refine wp_region_lit ?_
  refine seg ha 1 [(0, .slice ao1 a0.length cap1)] (by kernel_rfl) fun a ha => ?_
  refine hK _ _ ?_; clear hK K
  refine wp_seq_k fun K hK => ?_
  refine wp_seq_k fun K2 hK2 => ?_
  refine wp_region_lit ?_
  refine seg ha 2 [(0, .slice ao1 a0.length cap1), (4, .bool ao1.isNone)] (by kernel_rfl) fun a ha => ?_
  refine hK2 _ _ ?_; clear hK2 K2
  refine cnd ha rfl (fun hc => ?_) (fun hc => ?_)
  · refine wp_seq_k fun K2 hK2 => ?_
    refine wp_region_lit ?_
    refine seg ha 1 [(2, .slice none 0 0)] (by kernel_rfl) fun a ha => ?_
    refine hK2 _ _ ?_; clear hK2 K2
    refine wp_ret ?_
    have hx : a0 = [] := by
      rcases f1 with ⟨_, _, h | ⟨g, o, cur, fr, e, _⟩⟩
      · exact h
      · subst e; simp at hc
    simp only [Exit.then]
    refine rt1 ha rfl rfl ?_
    exact ⟨none, 0, by rw [hx]; rfl, by rw [hx]; exact Own.nil, (fun _ h => nomatch h), Chg.refl _ _, hM⟩
  · refine wp_skip ?_
    refine hK _ _ ?_; clear hK K
    refine wp_seq_k fun K hK => ?_
    refine wp_region_lit ?_
    refine bsl (vals := []) (T := 5) ha rfl [] (fun w => by kernel_rfl) rfl rfl rfl fun a w1 g hN ha => ?_
    refine seg ha 1 [(0, .slice ao1 a0.length cap1), (5, .slice (some ⟨g, 0, none⟩) 0 0), (6, .slice ao1 a0.length cap1)] (by kernel_rfl) fun a ha => ?_
    have hO : Own (rInt .u8) 5 w1 ([g] ++ M) (some ⟨g, 0, none⟩) 0 [] := hN.own rfl (Nat.zero_le _)
    have h1 : RSl (rInt .u8) 5 w1 ([g] ++ M) ao1 cap1 a0 := f1.chg hN.chg (Ok.nil _ _) (Ok.app (hN.ok _) (Ok.refl _ _))
    refine app (r := rInt .u8) (xs := []) ha (ElemT.mk' (bytes := 1) (by kernel_rfl)) rfl rfl rfl rfl rfl hO h1.src (by simpa using hb) (by decide) fun a w2 ao2 cap2 hO2 hc2 hok hlt ha => ?_
    refine seg ha 1 [(2, .slice ao2 ([] ++ a0).length cap2)] (by kernel_rfl) fun a ha => ?_
    refine hK _ _ ?_; clear hK K
    refine wp_ret ?_
    refine rt1 ha rfl rfl ⟨ao2, cap2, rfl, ?_, ?_, ?_, ?_⟩
    · exact hO2.chg (Chg.refl [] _) (Ok.nil _ _) (Ok.app (fun g hg => .inl (ml hg)) (fun g hg => .inl (mr (mr hg)))) (fun _ _ hh => nomatch hh) (fun g hg => ml hg)
    · intro x hx
      rcases hok x hx with h | h
      · simp [blkL] at h; subst h; exact hN.ge
      · exact Nat.le_trans hN.chg.size h
    · exact hN.chg.trans hc2 (Ok.one (.inr hN.ge))
    · exact MS.app hlt ((hM.chg hN.chg).chg hc2)

def cursor_Put.l0 (a1 : Int) : Nat → (List Int) → Int → Option (List Int)
  | 0, _, _ => none
  | kk + 1, x20, x21 => (if (decide (x21 ≥ (0 : Int))) = true then (if 0 ≤ x21 then (if (x20.length + ([IntKind.u8.wrap (Int.fdiv a1 (2 ^ (min (Int.toNat x21) IntKind.i64.bits)))] : List Int).length) * 1 ≤ 140737488355328 then cursor_Put.l0 a1 kk (x20 ++ ([IntKind.u8.wrap (Int.fdiv a1 (2 ^ (min (Int.toNat x21) IntKind.i64.bits)))] : List Int)) (IntKind.i64.wrap (x21 - (8 : Int))) else none) else none) else some (x20 : List Int))
def cursor_Put.f (k : Nat) (a0 : List Int) (a1 : Int) (a2 : Int) : Option (List Int × Int) := (if (if (decide (a2 < (1 : Int))) = true then true else (decide (a2 > (4 : Int)))) = true then some ((([] : List Int) : List Int), ((1 : Int) : Int)) else ((if (decide (a1 < (0 : Int))) = true then some (true : Bool) else (if 0 ≤ (IntKind.i64.wrap ((8 : Int) * a2)) then some ((Int.fdiv a1 (2 ^ (min (Int.toNat (IntKind.i64.wrap ((8 : Int) * a2))) IntKind.i64.bits))) != (0 : Int) : Bool) else none))).bind fun s9 => (if s9 = true then some ((([] : List Int) : List Int), ((5 : Int) : Int)) else (bytes_Clone.f a0).bind fun t14 => (cursor_Put.l0 a1 k t14 (IntKind.i64.wrap ((8 : Int) * (IntKind.i64.wrap (a2 - (1 : Int)))))).bind fun s18 => some ((s18 : List Int), ((0 : Int) : Int))))
set_option maxRecDepth 100000 in
theorem cursor_Put.walk (w : World) (M : List Nat) (hM : MS M w) (a0 : List Int) (ao1 : Option Addr) (cap1 : Nat) (f1 : RSl (rInt .u8) 5 w M ao1 cap1 a0) (a1 : Int) (a2 : Int) (k : Nat) (r : List Int × Int) (H : cursor_Put.f k a0 a1 a2 = some r) :
    To Try.prog 31 [.slice ao1 a0.length cap1, .int .i64 a1, .int .i64 a2] w fun v w' => ∃ (ao39 : Option Addr) (cap39 : Nat), v = .tuple #[.slice ao39 r.1.length cap39, .int .i64 r.2] ∧ (Own (rInt .u8) 5 w' (blkL ao39 ++ (M)) ao39 cap39 r.1) ∧ (∀ x ∈ blkL ao39, w.heap.size ≤ x) ∧ Chg [] w w' ∧ MS (blkL ao39 ++ (M)) w' := by
 unfold cursor_Put.f at H
 refine ent Try.func31 rfl [(0, .slice ao1 a0.length cap1), (1, .int .i64 a1), (2, .int .i64 a2)] rfl (by rfl) fun a ha => ?_
 have hC : Chg [] w w := Chg.refl _ _
 refine wp_seq_k fun K2 hK2 => ?_
 refine wp_region_lit ?_
 refine seg ha 2 [(0, .slice ao1 a0.length cap1), (1, .int .i64 a1), (2, .int .i64 a2)] (by kernel_rfl) fun a ha => ?_
 refine hK2 _ _ ?_; try clear hK2 K2
 refine wp_seq_k fun K3 hK3 => ?_
 refine wp_block ?_
 refine wp_seq_k fun K4 hK4 => ?_
 refine wp_region_lit ?_
 refine seg ha 7 [(0, .slice ao1 a0.length cap1), (1, .int .i64 a1), (2, .int .i64 a2), (10, .bool (if (decide (a2 < (1 : Int))) = true then true else (decide (a2 > (4 : Int)))))] (by kernel_rfl) fun a ha => ?_
 refine hK4 _ _ ?_; try clear hK4 K4
 refine cnd ha rfl (fun hc5 => ?_) (fun hc5 => ?_)
 ·have H := ite_t hc5 H
  refine wp_seq_k fun K6 hK6 => ?_
  refine wp_region_lit ?_
  refine seg ha 2 [(6, .slice none 0 0), (7, .int .i64 (1 : Int))] (by kernel_rfl) fun a ha => ?_
  refine hK6 _ _ ?_; try clear hK6 K6
  refine wp_ret ?_
  try simp only [Exit.then, Exit.inBlock]
  have p_z7_M : ∀ x ∈ blkL none, x ∉ M := fun x hx hy => absurd (hM x (hy)) (Nat.not_lt.2 ((fun _ h => nomatch h) x hx))
  have e_z7 : ∀ x ∈ blkL none, w.heap.size ≤ x := fun x hx => Nat.le_trans hC.size ((fun _ h => nomatch h) x hx)
  have hM : MS (blkL none ++ (M)) w := (MS.app (fun _ h => nomatch h) (hM.chg (Chg.refl [] _)))
  have hC := hC.trans (Chg.refl [] _) (Ok.nil _ _)
  obtain rfl := Option.some.inj H
  refine rt2 ha rfl rfl rfl ?_
  exact ⟨none, 0, rfl, Own.nil, e_z7, hC, hM⟩
 ·have H := ite_f hc5 H
  refine wp_seq_k fun K8 hK8 => ?_
  refine wp_region_lit ?_
  obtain ⟨s9, H9, H⟩ := bind_some H
  have J9 : ∀ (a : Act) (w9 : World), Has a Try.f31.ntmps [(0, .slice ao1 a0.length cap1), (1, .int .i64 a1), (2, .int .i64 a2), (17, .bool s9)] → (RSl (rInt .u8) 5 w9 (M) ao1 cap1 a0) → (Chg [] w w9) → (MS (M) w9) → K8 a w9 := by
   intro a w9 ha f1 hC hM
   refine hK8 _ _ ?_; try clear hK8 K8
   refine cnd ha rfl (fun hc10 => ?_) (fun hc10 => ?_)
   ·have H := ite_t hc10 H
    refine wp_seq_k fun K11 hK11 => ?_
    refine wp_region_lit ?_
    refine seg ha 2 [(6, .slice none 0 0), (7, .int .i64 (5 : Int))] (by kernel_rfl) fun a ha => ?_
    refine hK11 _ _ ?_; try clear hK11 K11
    refine wp_ret ?_
    try simp only [Exit.then, Exit.inBlock]
    have p_z12_M : ∀ x ∈ blkL none, x ∉ M := fun x hx hy => absurd (hM x (hy)) (Nat.not_lt.2 ((fun _ h => nomatch h) x hx))
    have e_z12 : ∀ x ∈ blkL none, w.heap.size ≤ x := fun x hx => Nat.le_trans hC.size ((fun _ h => nomatch h) x hx)
    have hM : MS (blkL none ++ (M)) w9 := (MS.app (fun _ h => nomatch h) (hM.chg (Chg.refl [] _)))
    have hC := hC.trans (Chg.refl [] _) (Ok.nil _ _)
    obtain rfl := Option.some.inj H
    refine rt2 ha rfl rfl rfl ?_
    exact ⟨none, 0, rfl, Own.nil, e_z12, hC, hM⟩
   ·have H := ite_f hc10 H
    refine wp_skip ?_
    refine hK3 _ _ ?_; try clear hK3 K3
    refine wp_seq_k fun K13 hK13 => ?_
    refine wp_region_lit ?_
    refine seg ha 1 [(1, .int .i64 a1), (2, .int .i64 a2), (27, .slice ao1 a0.length cap1)] (by kernel_rfl) fun a ha => ?_
    obtain ⟨t14, H14, H⟩ := bind_some H
    refine cl ha (by rfl) (by kernel_rfl) (by rfl) (by rfl) (by rfl) (bytes_Clone.walk w9 _ hM a0 ao1 cap1 f1 _ H14) ?_
    rintro _ w14 ⟨ao15, cap15, rfl, f15, ne_i15, hc14, hMn⟩ a ha
    have o1 : Ok [] (M) w9.heap.size := Ok.nil _ _
    have o2 : Ok (blkL ao15 ++ (M)) (M) w9.heap.size := (Ok.app (fun x h => .inr (ne_i15 x h)) (Ok.refl _ _))
    have f1 := f1.chg hc14 o1 o2
    have p_i15_M : ∀ x ∈ blkL ao15, x ∉ M := fun x hx hy => absurd (hM x (hy)) (Nat.not_lt.2 (ne_i15 x hx))
    have e_i15 : ∀ x ∈ blkL ao15, w.heap.size ≤ x := fun x hx => Nat.le_trans hC.size (ne_i15 x hx)
    have hM : MS (blkL ao15 ++ (M)) w14 := (MS.app (fun x h => hMn x (ml h)) (hM.chg hc14))
    have hC := hC.trans hc14 (Ok.nil _ _)
    refine seg ha 1 [(1, .int .i64 a1), (2, .int .i64 a2), (8, .slice ao15 t14.length cap15)] (by kernel_rfl) fun a ha => ?_
    refine hK13 _ _ ?_; try clear hK13 K13
    refine wp_seq_k fun K16 hK16 => ?_
    refine wp_seq_k fun K17 hK17 => ?_
    refine wp_region_lit ?_
    refine seg ha 4 [(1, .int .i64 a1), (8, .slice ao15 t14.length cap15), (9, .int .i64 (IntKind.i64.wrap ((8 : Int) * (IntKind.i64.wrap (a2 - (1 : Int))))))] (by kernel_rfl) fun a ha => ?_
    refine hK17 _ _ ?_; try clear hK17 K17
    refine wp_block ?_
    obtain ⟨s18, H18, H⟩ := bind_some H
    have J18 : ∀ (a : Act) (wx18 : World) (ao22 : Option Addr) (cap22 : Nat), Has a Try.f31.ntmps [(8, .slice ao22 s18.length cap22)] → (Own (rInt .u8) 5 wx18 (blkL ao22 ++ (M)) ao22 cap22 s18) → (∀ x ∈ blkL ao22, w.heap.size ≤ x) → (∀ x ∈ blkL ao22, x ∉ M) → (Chg [] w wx18) → (MS (blkL ao22 ++ (M)) wx18) → K16 a wx18 := by
     intro a wx18 ao22 cap22 ha f22 e_i22 p_i22_M hC hM
     refine hK16 _ _ ?_; try clear hK16 K16
     refine wp_seq_k fun K23 hK23 => ?_
     refine wp_region_lit ?_
     refine seg ha 3 [(6, .slice ao22 s18.length cap22), (7, .int .i64 (0 : Int))] (by kernel_rfl) fun a ha => ?_
     refine hK23 _ _ ?_; try clear hK23 K23
     refine wp_ret ?_
     try simp only [Exit.then, Exit.inBlock]
     obtain rfl := Option.some.inj H
     refine rt2 ha rfl rfl rfl ?_
     exact ⟨ao22, cap22, rfl, f22, e_i22, hC, hM⟩
    have Hc18 := H
    have H := H18
    refine wp_loop_ghost (fun kk a w18 => ∃ (x20 : List Int) (x21 : Int) (ao19 : Option Addr) (cap19 : Nat), cursor_Put.l0 a1 kk x20 x21 = some s18 ∧ Has a Try.f31.ntmps [(1, .int .i64 a1), (8, .slice ao19 x20.length cap19), (9, .int .i64 x21)] ∧ (Own (rInt .u8) 5 w18 (blkL ao19 ++ (M)) ao19 cap19 x20) ∧ (∀ x ∈ blkL ao19, w.heap.size ≤ x) ∧ (∀ x ∈ blkL ao19, x ∉ M) ∧ (Chg [] w w18) ∧ (MS (blkL ao19 ++ (M)) w18)) k ?_ ?_
    ·skip
     exact ⟨t14, IntKind.i64.wrap ((8 : Int) * (IntKind.i64.wrap (a2 - (1 : Int)))), ao15, cap15, H, (ha.sel (by kernel_rfl)), f15, e_i15, p_i15_M, hC, hM⟩
    ·rintro kk a w18 ⟨x20, x21, ao19, cap19, H, ha, f19, e_i19, p_i19_M, hC, hM⟩
     obtain _ | kk := kk
     ·exact nomatch (show none = some _ from H)
     rw [cursor_Put.l0] at H
     refine wp_seq_k fun K24 hK24 => ?_
     refine wp_seq_k fun K25 hK25 => ?_
     refine wp_region_lit ?_
     refine seg ha 2 [(1, .int .i64 a1), (8, .slice ao19 x20.length cap19), (9, .int .i64 x21), (33, .bool (decide (x21 ≥ (0 : Int))))] (by kernel_rfl) fun a ha => ?_
     refine hK25 _ _ ?_; try clear hK25 K25
     refine cnd ha rfl (fun hc26 => ?_) (fun hc26 => ?_)
     ·have H := ite_t hc26 H
      refine wp_skip ?_
      refine hK24 _ _ ?_; try clear hK24 K24
      refine wp_seq_k fun K27 hK27 => ?_
      refine wp_block ?_
      refine wp_region_lit ?_
      refine seg ha 3 [(1, .int .i64 a1), (9, .int .i64 x21), (36, .slice ao19 x20.length cap19), (37, .int .i64 a1), (38, .int .i64 x21)] (by kernel_rfl) fun a ha => ?_
      obtain ⟨hx28, H⟩ := ite_some H
      refine hop (v := .int .i64 (Int.fdiv a1 (2 ^ (min (Int.toNat x21) IntKind.i64.bits)))) (w' := w18) ha rfl rfl rfl (shr_run ha (by rfl) (by rfl) hx28 _) fun a ha => ?_
      refine seg ha 1 [(1, .int .i64 a1), (9, .int .i64 x21), (36, .slice ao19 x20.length cap19), (40, .int .u8 (IntKind.u8.wrap (Int.fdiv a1 (2 ^ (min (Int.toNat x21) IntKind.i64.bits)))))] (by kernel_rfl) fun a ha => ?_
      refine bsl (vals := ([.int .u8 (IntKind.u8.wrap (Int.fdiv a1 (2 ^ (min (Int.toNat x21) IntKind.i64.bits))))] : List Value)) (T := 5) ha rfl (([.int .u8 (IntKind.u8.wrap (Int.fdiv a1 (2 ^ (min (Int.toNat x21) IntKind.i64.bits))))] : List Value) ++ ([] : List Value)) (fun w => by kernel_rfl) rfl rfl rfl fun a w29 g30 hN31 ha => ?_
      have o1 : Ok [] (blkL ao19 ++ (M)) w18.heap.size := Ok.nil _ _
      have o2 : Ok ([g30] ++ (blkL ao19 ++ (M))) (blkL ao19 ++ (M)) w18.heap.size := (Ok.app (hN31.ok _) (Ok.refl _ _))
      have f19 := f19.chg hN31.chg o1 o2 (fun _ _ h => nomatch h) (fun _ h => mr (ml h))
      have p_i32_i19 : ∀ x ∈ [g30], x ∉ (blkL ao19) := fun x hx hy => absurd (hM x (ml hy)) (Nat.not_lt.2 ((hN31.ge1) x hx))
      have p_i32_M : ∀ x ∈ [g30], x ∉ M := fun x hx hy => absurd (hM x (mr (hy))) (Nat.not_lt.2 ((hN31.ge1) x hx))
      have e_i32 : ∀ x ∈ [g30], w.heap.size ≤ x := fun x hx => Nat.le_trans hC.size ((hN31.ge1) x hx)
      have hM : MS ([g30] ++ (blkL ao19 ++ (M))) w29 := (MS.app hN31.ms (hM.chg hN31.chg))
      have hC := hC.trans hN31.chg (Ok.nil _ _)
      have f33 : Own (rInt .u8) 5 w29 ([g30] ++ (blkL ao19 ++ (M))) (some ⟨g30, 0, none⟩) 1 ([IntKind.u8.wrap (Int.fdiv a1 (2 ^ (min (Int.toNat x21) IntKind.i64.bits)))] : List Int) := hN31.own ⟨([.int .u8 (IntKind.u8.wrap (Int.fdiv a1 (2 ^ (min (Int.toNat x21) IntKind.i64.bits))))] : List Value), _, rfl, rfl, rfl⟩ (Nat.le_of_ble_eq_true rfl)
      obtain ⟨hx34, H⟩ := ite_some H
      refine app (r := (rInt .u8)) (xs := x20) (ys := ([IntKind.u8.wrap (Int.fdiv a1 (2 ^ (min (Int.toNat x21) IntKind.i64.bits)))] : List Int)) ha (ElemT.mk' (bytes := 1) (by kernel_rfl)) rfl rfl rfl rfl rfl f19 f33.src hx34 (by decide) fun a w35 ao36 cap36 hO36 hc36 hk36 hl36 ha => ?_
      have o1 : Ok (blkL ao19) ([g30] ++ (blkL ao19 ++ (M))) w29.heap.size := (fun _ h => .inl (mr (ml h)))
      have o2 : Ok (blkL ao36 ++ ([g30] ++ (M))) ([g30] ++ (blkL ao19 ++ (M))) w29.heap.size := (Ok.app (Ok.to hk36 (fun _ h => mr (ml h))) (Ok.app (fun _ h => .inl (ml h)) (fun _ h => .inl (mr (mr (h))))))
      have f33 := f33.chg hc36 o1 o2 p_i32_i19 (fun _ h => mr (ml h))
      have p_i36_i32 : ∀ x ∈ blkL ao36, x ∉ ([g30]) := fun x hx hy => (hk36 x hx).elim (fun h => (fun x hx hy => p_i32_i19 x hy hx) x h hy) (fun h => absurd (hM x (ml hy)) (Nat.not_lt.2 h))
      have p_i36_M : ∀ x ∈ blkL ao36, x ∉ M := fun x hx hy => (hk36 x hx).elim (fun h => p_i19_M x h hy) (fun h => absurd (hM x (mr (mr (hy)))) (Nat.not_lt.2 h))
      have e_i36 : ∀ x ∈ blkL ao36, w.heap.size ≤ x := fun x hx => (hk36 x hx).elim (e_i19 x) (Nat.le_trans hC.size)
      have hM : MS (blkL ao36 ++ ([g30] ++ (M))) w35 := (MS.app hl36 (MS.app (fun x h => hM.chg hc36 x (ml h)) (fun x h => hM.chg hc36 x (mr (mr (h))))))
      have hC := hC.trans hc36 (fun x h => .inr (e_i19 x h))
      have f36 := hO36.chg (M' := blkL ao36 ++ ([g30] ++ (M))) (Chg.refl [] _) (Ok.nil _ _) (Ok.app (fun _ h => .inl (ml h)) (Ok.to (Ok.app (fun _ h => .inl (ml h)) (fun _ h => .inl (mr (mr (h))))) (fun _ h => mr h))) (fun _ _ h => nomatch h) (fun _ h => ml h)
      refine seg ha 1 [(1, .int .i64 a1), (8, .slice ao36 (x20 ++ ([IntKind.u8.wrap (Int.fdiv a1 (2 ^ (min (Int.toNat x21) IntKind.i64.bits)))] : List Int)).length cap36), (9, .int .i64 x21)] (by kernel_rfl) fun a ha => ?_
      refine hK27 _ _ ?_; try clear hK27 K27
      refine wp_region_lit ?_
      refine seg ha 3 [(1, .int .i64 a1), (8, .slice ao36 (x20 ++ ([IntKind.u8.wrap (Int.fdiv a1 (2 ^ (min (Int.toNat x21) IntKind.i64.bits)))] : List Int)).length cap36), (9, .int .i64 (IntKind.i64.wrap (x21 - (8 : Int))))] (by kernel_rfl) fun a ha => ?_
      have o1 : Ok [] (blkL ao36 ++ ([g30] ++ (M))) w35.heap.size := Ok.nil _ _
      have o2 : Ok (blkL ao36 ++ (M)) (blkL ao36 ++ ([g30] ++ (M))) w35.heap.size := (Ok.app (fun _ h => .inl (ml h)) (fun _ h => .inl (mr (mr (h)))))
      have f36 := f36.chg (Chg.refl [] _) o1 o2 (fun _ _ h => nomatch h) (fun _ h => ml h)
      have hM : MS (blkL ao36 ++ (M)) w35 := (MS.app (fun x h => hM.chg (Chg.refl [] _) x (ml h)) (fun x h => hM.chg (Chg.refl [] _) x (mr (mr (h)))))
      have hC := hC.trans (Chg.refl [] _) (Ok.nil _ _)
      exact ⟨kk, Nat.lt_succ_self _, ⟨(x20 ++ ([IntKind.u8.wrap (Int.fdiv a1 (2 ^ (min (Int.toNat x21) IntKind.i64.bits)))] : List Int)), IntKind.i64.wrap (x21 - (8 : Int)), ao36, cap36, H, (ha.sel (by kernel_rfl)), f36, e_i36, p_i36_M, hC, hM⟩⟩
     ·have H := ite_f hc26 H
      refine wp_exit ?_
      simp only [Exit.then, Exit.inBlock, ↓reduceIte, Nat.reduceEqDiff]
      obtain rfl := Option.some.inj H
      exact J18 _ _ ao19 cap19 (ha.sel (by kernel_rfl)) f19 e_i19 p_i19_M hC hM
  have H := H9
  refine seg ha 3 [(20, .bool (decide (a1 < (0 : Int)))), (0, .slice ao1 a0.length cap1), (1, .int .i64 a1), (2, .int .i64 a2)] (by kernel_rfl) fun a ha => ?_
  rcases Bool.eq_false_or_eq_true (decide (a1 < (0 : Int))) with hb37 | hb37
  ·have ha := ha.lit hb37
   have H := ite_t hb37 H
   refine sgh ha 7 [1, 1, 1, 1, 1, 3, 0] [(0, .slice ao1 a0.length cap1), (1, .int .i64 a1), (2, .int .i64 a2), (17, .bool true)] (by kernel_rfl) fun a ha => ?_
   obtain rfl := Option.some.inj H
   exact J9 _ _ (ha.sel (by kernel_rfl)) f1 hC hM
  ·have ha := ha.lit hb37
   have H := ite_f hb37 H
   refine sgh ha 3 [2, 2, 2] [(0, .slice ao1 a0.length cap1), (1, .int .i64 a1), (2, .int .i64 a2), (20, .bool false), (21, .int .i64 a1), (23, .int .i64 (IntKind.i64.wrap ((8 : Int) * a2)))] (by kernel_rfl) fun a ha => ?_
   obtain ⟨hx38, H⟩ := ite_some H
   refine hop (v := .int .i64 (Int.fdiv a1 (2 ^ (min (Int.toNat (IntKind.i64.wrap ((8 : Int) * a2))) IntKind.i64.bits)))) (w' := w) ha rfl rfl rfl (shr_run ha (by rfl) (by rfl) hx38 _) fun a ha => ?_
   refine sgh ha 3 [2, 4, 0] [(0, .slice ao1 a0.length cap1), (1, .int .i64 a1), (2, .int .i64 a2), (17, .bool ((Int.fdiv a1 (2 ^ (min (Int.toNat (IntKind.i64.wrap ((8 : Int) * a2))) IntKind.i64.bits))) != (0 : Int)))] (by kernel_rfl) fun a ha => ?_
   obtain rfl := Option.some.inj H
   exact J9 _ _ (ha.sel (by kernel_rfl)) f1 hC hM
def label_Bytes.f (k : Nat) (a0 : Int) (a1 : Bool) : Option (List Int × Int) := (if (if (decide (a0 < (0 : Int))) = true then true else (decide (a0 > (1048575 : Int)))) = true then some ((([] : List Int) : List Int), ((5 : Int) : Int)) else ((if a1 = true then some (IntKind.i64.wrap (BitVec.ofInt IntKind.i64.bits (IntKind.i64.wrap (a0 * 2 ^ (min (4 : Int).toNat IntKind.i64.bits))) ||| BitVec.ofInt IntKind.i64.bits (1 : Int)).toNat : Int) else some (IntKind.i64.wrap (a0 * 2 ^ (min (4 : Int).toNat IntKind.i64.bits)) : Int))).bind fun s9 => (cursor_Put.f k ([] : List Int) s9 (3 : Int)).bind fun t11 => some ((t11.1 : List Int), (t11.2 : Int)))
set_option maxRecDepth 100000 in
theorem label_Bytes.walk (w : World) (M : List Nat) (hM : MS M w) (a0 : Int) (a1 : Bool) (k : Nat) (r : List Int × Int) (H : label_Bytes.f k a0 a1 = some r) :
    To Try.prog 24 [.int .i64 a0, .bool a1] w fun v w' => ∃ (ao15 : Option Addr) (cap15 : Nat), v = .tuple #[.slice ao15 r.1.length cap15, .int .i64 r.2] ∧ (Own (rInt .u8) 5 w' (blkL ao15 ++ (M)) ao15 cap15 r.1) ∧ (∀ x ∈ blkL ao15, w.heap.size ≤ x) ∧ Chg [] w w' ∧ MS (blkL ao15 ++ (M)) w' := by
 unfold label_Bytes.f at H
 refine ent Try.func24 rfl [(0, .int .i64 a0), (1, .bool a1)] rfl (by rfl) fun a ha => ?_
 have hC : Chg [] w w := Chg.refl _ _
 refine wp_seq_k fun K1 hK1 => ?_
 refine wp_region_lit ?_
 refine seg ha 2 [(0, .int .i64 a0), (1, .bool a1)] (by kernel_rfl) fun a ha => ?_
 refine hK1 _ _ ?_; try clear hK1 K1
 refine wp_seq_k fun K2 hK2 => ?_
 refine wp_seq_k fun K3 hK3 => ?_
 refine wp_region_lit ?_
 refine seg ha 6 [(0, .int .i64 a0), (1, .bool a1), (12, .bool (if (decide (a0 < (0 : Int))) = true then true else (decide (a0 > (1048575 : Int)))))] (by kernel_rfl) fun a ha => ?_
 refine hK3 _ _ ?_; try clear hK3 K3
 refine cnd ha rfl (fun hc4 => ?_) (fun hc4 => ?_)
 ·have H := ite_t hc4 H
  refine wp_seq_k fun K5 hK5 => ?_
  refine wp_region_lit ?_
  refine seg ha 2 [(4, .slice none 0 0), (5, .int .i64 (5 : Int))] (by kernel_rfl) fun a ha => ?_
  refine hK5 _ _ ?_; try clear hK5 K5
  refine wp_ret ?_
  try simp only [Exit.then, Exit.inBlock]
  have p_z6_M : ∀ x ∈ blkL none, x ∉ M := fun x hx hy => absurd (hM x (hy)) (Nat.not_lt.2 ((fun _ h => nomatch h) x hx))
  have e_z6 : ∀ x ∈ blkL none, w.heap.size ≤ x := fun x hx => Nat.le_trans hC.size ((fun _ h => nomatch h) x hx)
  have hM : MS (blkL none ++ (M)) w := (MS.app (fun _ h => nomatch h) (hM.chg (Chg.refl [] _)))
  have hC := hC.trans (Chg.refl [] _) (Ok.nil _ _)
  obtain rfl := Option.some.inj H
  refine rt2 ha rfl rfl rfl ?_
  exact ⟨none, 0, rfl, Own.nil, e_z6, hC, hM⟩
 ·have H := ite_f hc4 H
  refine wp_skip ?_
  refine hK2 _ _ ?_; try clear hK2 K2
  refine wp_seq_k fun K7 hK7 => ?_
  refine wp_region_lit ?_
  refine seg ha 3 [(1, .bool a1), (6, .int .i64 (IntKind.i64.wrap (a0 * 2 ^ (min (4 : Int).toNat IntKind.i64.bits))))] (by kernel_rfl) fun a ha => ?_
  refine hK7 _ _ ?_; try clear hK7 K7
  refine wp_seq_k fun K8 hK8 => ?_
  obtain ⟨s9, H9, H⟩ := bind_some H
  have J9 : ∀ (a : Act) (w9 : World), Has a Try.f24.ntmps [(6, .int .i64 s9)] → (Chg [] w w9) → (MS (M) w9) → K8 a w9 := by
   intro a w9 ha hC hM
   refine hK8 _ _ ?_; try clear hK8 K8
   refine wp_seq_k fun K10 hK10 => ?_
   refine wp_region_lit ?_
   refine seg ha 1 [(18, .int .i64 s9)] (by kernel_rfl) fun a ha => ?_
   obtain ⟨t11, H11, H⟩ := bind_some H
   refine cl ha (by rfl) (by kernel_rfl) (by rfl) (by rfl) (by rfl) (cursor_Put.walk w9 _ hM ([] : List Int) none 0 (RSl.nil (Nat.zero_le _)) s9 (3 : Int) k _ H11) ?_
   rintro _ w11 ⟨ao12, cap12, rfl, f12, ne_i12, hc11, hMn⟩ a ha
   have p_i12_M : ∀ x ∈ blkL ao12, x ∉ M := fun x hx hy => absurd (hM x (hy)) (Nat.not_lt.2 (ne_i12 x hx))
   have e_i12 : ∀ x ∈ blkL ao12, w.heap.size ≤ x := fun x hx => Nat.le_trans hC.size (ne_i12 x hx)
   have hM : MS (blkL ao12 ++ (M)) w11 := (MS.app (fun x h => hMn x (ml h)) (hM.chg hc11))
   have hC := hC.trans hc11 (Ok.nil _ _)
   refine seg ha 4 [(4, .slice ao12 t11.1.length cap12), (5, .int .i64 t11.2)] (by kernel_rfl) fun a ha => ?_
   refine hK10 _ _ ?_; try clear hK10 K10
   refine wp_ret ?_
   try simp only [Exit.then, Exit.inBlock]
   obtain rfl := Option.some.inj H
   refine rt2 ha rfl rfl rfl ?_
   exact ⟨ao12, cap12, rfl, f12, e_i12, hC, hM⟩
  have H := H9
  refine wp_seq_k fun K13 hK13 => ?_
  refine wp_region_lit ?_
  refine seg ha 1 [(6, .int .i64 (IntKind.i64.wrap (a0 * 2 ^ (min (4 : Int).toNat IntKind.i64.bits)))), (15, .bool a1)] (by kernel_rfl) fun a ha => ?_
  refine hK13 _ _ ?_; try clear hK13 K13
  refine cnd ha rfl (fun hc14 => ?_) (fun hc14 => ?_)
  ·have H := ite_t hc14 H
   refine wp_region_lit ?_
   refine seg ha 3 [(6, .int .i64 (IntKind.i64.wrap (BitVec.ofInt IntKind.i64.bits (IntKind.i64.wrap (a0 * 2 ^ (min (4 : Int).toNat IntKind.i64.bits))) ||| BitVec.ofInt IntKind.i64.bits (1 : Int)).toNat))] (by kernel_rfl) fun a ha => ?_
   obtain rfl := Option.some.inj H
   exact J9 _ _ (ha.sel (by kernel_rfl)) hC hM
  ·have H := ite_f hc14 H
   refine wp_skip ?_
   obtain rfl := Option.some.inj H
   exact J9 _ _ (ha.sel (by kernel_rfl)) hC hM
structure PoolS where
  first : Int
  count : Int
  labels : List (List UInt8 × Int)
  owners : List (Int × List UInt8)
def PoolAt (w : World) (g : Nat) (L : List Nat) (x : PoolS) : Prop :=
  ∃ g1 g2, L = [g, g1, g2] ∧ g ≠ g1 ∧ g ≠ g2 ∧ g1 ≠ g2 ∧ Box w g [.int .i64 x.first, .int .i64 x.count, .map (some g1), .map (some g2)] ∧ MapR kS (kI .i64) w g1 x.labels ∧ MapR (kI .i64) kS w g2 x.owners
theorem PoolAt.chg {w w' : World} {g : Nat} {L gs : List Nat} {x : PoolS} (h : PoolAt w g L x) (hc : Chg gs w w') (hn : ∀ y ∈ L, y ∉ gs) : PoolAt w' g L x := by
  obtain ⟨g1, g2, rfl, n1, n2, n3, hB, h1, h2⟩ := h
  exact ⟨g1, g2, rfl, n1, n2, n3, hB.chg hc (hn g (by simp)), h1.chg hc (hn g1 (by simp)), h2.chg hc (hn g2 (by simp))⟩
theorem u54 : Try.prog.underlying 54 = some (.map 9 3) := by kernel_rfl
theorem u55 : Try.prog.underlying 55 = some (.map 3 9) := by kernel_rfl
theorem K9 : MKey Try.prog 9 kS := mkey_str (by kernel_rfl)
theorem K3 : MKey Try.prog 3 (kI .i64) := mkey_int (by kernel_rfl)
def Pool_Count.f (x : PoolS) : Option Int := some (x.labels.length : Int)
theorem Pool_Count.walk (w : World) (M : List Nat) (hM : MS M w) (g : Nat) (L : List Nat) (x : PoolS) (f : PoolAt w g L x) (hL : ∀ y ∈ L, y ∈ M) (r : Int) (H : Pool_Count.f x = some r) :
    To Try.prog 11 [.pointer (some ⟨g, 0, none⟩)] w fun v w' => v = .int .i64 r ∧ Chg [] w w' ∧ MS M w' := by
  unfold Pool_Count.f at H
  obtain rfl := Option.some.inj H
  obtain ⟨g1, g2, rfl, n1, n2, n3, hB, h1, h2⟩ := f
  refine ent Try.func11 rfl [(0, .pointer (some ⟨g, 0, none⟩))] rfl (by rfl) fun a ha => ?_
  refine wp_seq_k fun K hK => ?_
  refine wp_region_lit ?_
  refine seg ha 1 [(0, .pointer (some ⟨g, 0, none⟩))] (by kernel_rfl) fun a ha => ?_
  refine hK _ _ ?_; clear hK K
  refine wp_seq_k fun K hK => ?_
  refine wp_region_lit ?_
  refine seg ha 3 [(5, .pointer (some ⟨g, 2, none⟩))] (by kernel_rfl) fun a ha => ?_
  refine ld (v := .map (some g1)) ha rfl (by kernel_rfl) rfl rfl rfl (hB.cell' (o := 2) rfl rfl) fun a ha => ?_
  refine mln ha u54 rfl rfl rfl rfl h1 fun a ha => ?_
  refine seg ha 1 [(2, .int .i64 (x.labels.length : Int))] (by kernel_rfl) fun a ha => ?_
  refine hK _ _ ?_; clear hK K
  refine wp_ret ?_
  exact rt1 ha rfl rfl ⟨rfl, Chg.refl _ _, hM⟩
def Pool_Of.f (x : PoolS) (o : List UInt8) : Option (Int × Bool) := some ((mget x.labels o).getD 0, (mget x.labels o).isSome)
theorem Pool_Of.walk (w : World) (M : List Nat) (hM : MS M w) (g : Nat) (L : List Nat) (x : PoolS) (f : PoolAt w g L x) (hL : ∀ y ∈ L, y ∈ M) (o : List UInt8) (r : Int × Bool) (H : Pool_Of.f x o = some r) :
    To Try.prog 17 [.pointer (some ⟨g, 0, none⟩), .string (bstr o)] w fun v w' => v = .tuple #[.int .i64 r.1, .bool r.2] ∧ Chg [] w w' ∧ MS M w' := by
  unfold Pool_Of.f at H
  obtain rfl := Option.some.inj H
  obtain ⟨g1, g2, rfl, n1, n2, n3, hB, h1, h2⟩ := f
  refine ent Try.func17 rfl [(0, .pointer (some ⟨g, 0, none⟩)), (1, .string (bstr o))] rfl (by rfl) fun a ha => ?_
  refine wp_seq_k fun K hK => ?_
  refine wp_region_lit ?_
  refine seg ha 2 [(0, .pointer (some ⟨g, 0, none⟩)), (1, .string (bstr o))] (by kernel_rfl) fun a ha => ?_
  refine hK _ _ ?_; clear hK K
  refine wp_seq_k fun K hK => ?_
  refine wp_region_lit ?_
  refine seg ha 3 [(1, .string (bstr o)), (11, .pointer (some ⟨g, 2, none⟩))] (by kernel_rfl) fun a ha => ?_
  refine ld (v := .map (some g1)) ha rfl (by kernel_rfl) rfl rfl rfl (hB.cell' (o := 2) rfl rfl) fun a ha => ?_
  refine seg ha 1 [(12, .map (some g1)), (13, .string (bstr o))] (by kernel_rfl) fun a ha => ?_
  refine mlk (k := o) (z := (0 : Int)) ha u54 K9 rfl rfl (fun w => by kernel_rfl) rfl rfl rfl h1 fun a ha => ?_
  refine seg ha 5 [(6, .int .i64 ((mget x.labels o).getD 0)), (7, .bool (mget x.labels o).isSome)] (by kernel_rfl) fun a ha => ?_
  refine hK _ _ ?_; clear hK K
  refine wp_seq_k fun K hK => ?_
  refine wp_region_lit ?_
  refine seg ha 4 [(4, .int .i64 ((mget x.labels o).getD 0)), (5, .bool (mget x.labels o).isSome)] (by kernel_rfl) fun a ha => ?_
  refine hK _ _ ?_; clear hK K
  refine wp_ret ?_
  exact rt2 ha rfl rfl rfl ⟨rfl, Chg.refl _ _, hM⟩
def Pool_Owner.f (x : PoolS) (n : Int) : Option (List UInt8 × Bool) := some ((mget x.owners n).getD [], (mget x.owners n).isSome)
theorem Pool_Owner.walk (w : World) (M : List Nat) (hM : MS M w) (g : Nat) (L : List Nat) (x : PoolS) (f : PoolAt w g L x) (hL : ∀ y ∈ L, y ∈ M) (n : Int) (r : List UInt8 × Bool) (H : Pool_Owner.f x n = some r) :
    To Try.prog 19 [.pointer (some ⟨g, 0, none⟩), .int .i64 n] w fun v w' => v = .tuple #[.string (bstr r.1), .bool r.2] ∧ Chg [] w w' ∧ MS M w' := by
  unfold Pool_Owner.f at H
  obtain rfl := Option.some.inj H
  obtain ⟨g1, g2, rfl, n1, n2, n3, hB, h1, h2⟩ := f
  refine ent Try.func19 rfl [(0, .pointer (some ⟨g, 0, none⟩)), (1, .int .i64 n)] rfl (by rfl) fun a ha => ?_
  refine wp_seq_k fun K hK => ?_
  refine wp_region_lit ?_
  refine seg ha 2 [(0, .pointer (some ⟨g, 0, none⟩)), (1, .int .i64 n)] (by kernel_rfl) fun a ha => ?_
  refine hK _ _ ?_; clear hK K
  refine wp_seq_k fun K hK => ?_
  refine wp_region_lit ?_
  refine seg ha 3 [(1, .int .i64 n), (11, .pointer (some ⟨g, 3, none⟩))] (by kernel_rfl) fun a ha => ?_
  refine ld (v := .map (some g2)) ha rfl (by kernel_rfl) rfl rfl rfl (hB.cell' (o := 3) rfl rfl) fun a ha => ?_
  refine seg ha 1 [(12, .map (some g2)), (13, .int .i64 n)] (by kernel_rfl) fun a ha => ?_
  refine mlk (k := n) (z := ([] : List UInt8)) ha u55 K3 rfl rfl (fun w => by kernel_rfl) rfl rfl rfl h2 fun a ha => ?_
  refine seg ha 5 [(6, .string (bstr ((mget x.owners n).getD []))), (7, .bool (mget x.owners n).isSome)] (by kernel_rfl) fun a ha => ?_
  refine hK _ _ ?_; clear hK K
  refine wp_seq_k fun K hK => ?_
  refine wp_region_lit ?_
  refine seg ha 4 [(4, .string (bstr ((mget x.owners n).getD []))), (5, .bool (mget x.owners n).isSome)] (by kernel_rfl) fun a ha => ?_
  refine hK _ _ ?_; clear hK K
  refine wp_ret ?_
  exact rt2 ha rfl rfl rfl ⟨rfl, Chg.refl _ _, hM⟩
def Pool_Clear.f (x : PoolS) : Option PoolS := some ⟨x.first, x.count, [], []⟩
theorem Pool_Clear.walk (w : World) (M : List Nat) (hM : MS M w) (g : Nat) (L : List Nat) (x : PoolS) (f : PoolAt w g L x) (hL : ∀ y ∈ L, y ∈ M) (r : PoolS) (H : Pool_Clear.f x = some r) :
    To Try.prog 12 [.pointer (some ⟨g, 0, none⟩)] w fun v w' => v = .tuple #[] ∧ PoolAt w' g L r ∧ Chg L w w' ∧ MS M w' := by
  unfold Pool_Clear.f at H
  obtain rfl := Option.some.inj H
  obtain ⟨g1, g2, rfl, n1, n2, n3, hB, h1, h2⟩ := f
  refine ent Try.func12 rfl [(0, .pointer (some ⟨g, 0, none⟩))] rfl (by rfl) fun a ha => ?_
  refine wp_seq_k fun K hK => ?_
  refine wp_region_lit ?_
  refine seg ha 3 [(0, .pointer (some ⟨g, 0, none⟩)), (4, .pointer (some ⟨g, 2, none⟩))] (by kernel_rfl) fun a ha => ?_
  refine ld (v := .map (some g1)) ha rfl (by kernel_rfl) rfl rfl rfl (hB.cell' (o := 2) rfl rfl) fun a ha => ?_
  refine mcl ha u54 rfl rfl h1 fun a w1 ha h1 c1 => ?_
  have hB := hB.chg c1 (by simp [n1])
  have h2 := h2.chg c1 (by simp [Ne.symm n3])
  refine wpl_end ?_
  have ha := ha.sel (env' := [(0, .pointer (some ⟨g, 0, none⟩))]) (by kernel_rfl)
  refine hK _ _ ?_; clear hK K
  refine wp_region_lit ?_
  refine seg ha 3 [(8, .pointer (some ⟨g, 3, none⟩))] (by kernel_rfl) fun a ha => ?_
  refine ld (v := .map (some g2)) ha rfl (by kernel_rfl) rfl rfl rfl (hB.cell' (o := 3) rfl rfl) fun a ha => ?_
  refine mcl ha u55 rfl rfl h2 fun a w2 ha h2 c2 => ?_
  have hB := hB.chg c2 (by simp [n2])
  have h1 := h1.chg c2 (by simp [n3])
  refine wpl_end ?_
  exact rt0 ha rfl ⟨rfl, ⟨g1, g2, rfl, n1, n2, n3, hB, h1, h2⟩, (c1.mono (gs' := [g, g1, g2]) (Ok.one (.inl (by simp)))).trans c2 (Ok.one (.inl (by simp))), (hM.chg c1).chg c2⟩
def Pool_Free.f (x : PoolS) (o : List UInt8) : Option (Bool × PoolS) :=
  if (mget x.labels o).isSome = true then some (true, ⟨x.first, x.count, mdel x.labels o, mdel x.owners ((mget x.labels o).getD 0)⟩) else some (false, x)
theorem Pool_Free.walk (w : World) (M : List Nat) (hM : MS M w) (g : Nat) (L : List Nat) (x : PoolS) (f : PoolAt w g L x) (hL : ∀ y ∈ L, y ∈ M) (o : List UInt8) (r : Bool × PoolS) (H : Pool_Free.f x o = some r) :
    To Try.prog 15 [.pointer (some ⟨g, 0, none⟩), .string (bstr o)] w fun v w' => v = .bool r.1 ∧ PoolAt w' g L r.2 ∧ Chg L w w' ∧ MS M w' := by
  unfold Pool_Free.f at H
  obtain ⟨g1, g2, rfl, n1, n2, n3, hB, h1, h2⟩ := f
  refine ent Try.func15 rfl [(0, .pointer (some ⟨g, 0, none⟩)), (1, .string (bstr o))] rfl (by rfl) fun a ha => ?_
  refine wp_seq_k fun K hK => ?_
  refine wp_region_lit ?_
  refine seg ha 1 [(0, .pointer (some ⟨g, 0, none⟩)), (1, .string (bstr o))] (by kernel_rfl) fun a ha => ?_
  refine hK _ _ ?_; clear hK K
  refine wp_seq_k fun K hK => ?_
  refine wp_region_lit ?_
  refine seg ha 3 [(0, .pointer (some ⟨g, 0, none⟩)), (1, .string (bstr o)), (10, .pointer (some ⟨g, 2, none⟩))] (by kernel_rfl) fun a ha => ?_
  refine ld (v := .map (some g1)) ha rfl (by kernel_rfl) rfl rfl rfl (hB.cell' (o := 2) rfl rfl) fun a ha => ?_
  refine seg ha 1 [(0, .pointer (some ⟨g, 0, none⟩)), (1, .string (bstr o)), (11, .map (some g1)), (12, .string (bstr o))] (by kernel_rfl) fun a ha => ?_
  refine mlk (k := o) (z := (0 : Int)) ha u54 K9 rfl rfl (fun w => by kernel_rfl) rfl rfl rfl h1 fun a ha => ?_
  refine seg ha 5 [(0, .pointer (some ⟨g, 0, none⟩)), (1, .string (bstr o)), (5, .int .i64 ((mget x.labels o).getD 0)), (6, .bool (mget x.labels o).isSome)] (by kernel_rfl) fun a ha => ?_
  refine hK _ _ ?_; clear hK K
  refine wp_seq_k fun K hK => ?_
  refine wp_seq_k fun K2 hK2 => ?_
  refine wp_region_lit ?_
  refine seg ha 1 [(0, .pointer (some ⟨g, 0, none⟩)), (1, .string (bstr o)), (5, .int .i64 ((mget x.labels o).getD 0)), (6, .bool (mget x.labels o).isSome), (16, .bool (mget x.labels o).isSome)] (by kernel_rfl) fun a ha => ?_
  refine hK2 _ _ ?_; clear hK2 K2
  have J : ∀ (a : Act) (w1 : World), Has a Try.f15.ntmps [(6, .bool r.1)] → PoolAt w1 g [g, g1, g2] r.2 → Chg [g, g1, g2] w w1 → MS M w1 → K a w1 := by
    intro a w1 ha hP hC hM
    refine hK _ _ ?_; clear hK K
    refine wp_seq_k fun K hK => ?_
    refine wp_region_lit ?_
    refine seg ha 2 [(4, .bool r.1)] (by kernel_rfl) fun a ha => ?_
    refine hK _ _ ?_; clear hK K
    refine wp_ret ?_
    exact rt1 ha rfl rfl ⟨rfl, hP, hC, hM⟩
  refine cnd ha rfl (fun hc => ?_) (fun hc => ?_)
  · have H := Option.some.inj (ite_t hc H)
    refine wp_seq_k fun K2 hK2 => ?_
    refine wp_region_lit ?_
    refine seg ha 3 [(0, .pointer (some ⟨g, 0, none⟩)), (1, .string (bstr o)), (5, .int .i64 ((mget x.labels o).getD 0)), (6, .bool (mget x.labels o).isSome), (19, .pointer (some ⟨g, 2, none⟩))] (by kernel_rfl) fun a ha => ?_
    refine ld (v := .map (some g1)) ha rfl (by kernel_rfl) rfl rfl rfl (hB.cell' (o := 2) rfl rfl) fun a ha => ?_
    refine seg ha 1 [(0, .pointer (some ⟨g, 0, none⟩)), (5, .int .i64 ((mget x.labels o).getD 0)), (6, .bool (mget x.labels o).isSome), (20, .map (some g1)), (21, .string (bstr o))] (by kernel_rfl) fun a ha => ?_
    refine mdl (k := o) ha u54 K9 rfl rfl rfl h1 fun a w1 ha h1 c1 => ?_
    have hB := hB.chg c1 (by simp [n1])
    have h2 := h2.chg c1 (by simp [Ne.symm n3])
    refine wpl_end ?_
    have ha := ha.sel (env' := [(0, .pointer (some ⟨g, 0, none⟩)), (5, .int .i64 ((mget x.labels o).getD 0)), (6, .bool (mget x.labels o).isSome)]) (by kernel_rfl)
    refine hK2 _ _ ?_; clear hK2 K2
    refine wp_region_lit ?_
    refine seg ha 3 [(5, .int .i64 ((mget x.labels o).getD 0)), (6, .bool (mget x.labels o).isSome), (24, .pointer (some ⟨g, 3, none⟩))] (by kernel_rfl) fun a ha => ?_
    refine ld (v := .map (some g2)) ha rfl (by kernel_rfl) rfl rfl rfl (hB.cell' (o := 3) rfl rfl) fun a ha => ?_
    refine seg ha 1 [(6, .bool (mget x.labels o).isSome), (25, .map (some g2)), (26, .int .i64 ((mget x.labels o).getD 0))] (by kernel_rfl) fun a ha => ?_
    refine mdl (k := (mget x.labels o).getD 0) ha u55 K3 rfl rfl rfl h2 fun a w2 ha h2 c2 => ?_
    have hB := hB.chg c2 (by simp [n2])
    have h1 := h1.chg c2 (by simp [n3])
    refine wpl_end ?_
    subst H
    have ha := ha.sel (env' := [(6, .bool (mget x.labels o).isSome)]) (by kernel_rfl)
    exact J _ _ (ha.lit hc) ⟨g1, g2, rfl, n1, n2, n3, hB, h1, h2⟩ ((c1.mono (gs' := [g, g1, g2]) (Ok.one (.inl (by simp)))).trans c2 (Ok.one (.inl (by simp)))) ((hM.chg c1).chg c2)
  · have H := Option.some.inj (ite_f hc H)
    refine wp_skip ?_
    subst H
    have ha := ha.sel (env' := [(6, .bool (mget x.labels o).isSome)]) (by kernel_rfl)
    exact J _ _ (ha.lit hc) ⟨g1, g2, rfl, n1, n2, n3, hB, h1, h2⟩ (Chg.refl _ _) hM
def Pool_New.f (a b : Int) : Option (Option PoolS × Int) := (if (if (if (if decide (a < (16 : Int)) = true then true else decide (a > (1048575 : Int))) = true then true else decide (b < (1 : Int))) = true then true else decide (b > IntKind.i64.wrap (IntKind.i64.wrap ((1048575 : Int) - a) + (1 : Int)))) = true then some (none, 1) else some (some ⟨a, b, [], []⟩, 0))
theorem Pool_New.walk (w : World) (M : List Nat) (hM : MS M w) (a0 b0 : Int) (r : Option PoolS × Int) (H : Pool_New.f a0 b0 = some r) :
    To Try.prog 9 [.int .i64 a0, .int .i64 b0] w fun v w' => ∃ po g L, v = .tuple #[.pointer po, .int .i64 r.2] ∧ (r.1 = none → po = none ∧ L = []) ∧ (∀ x, r.1 = some x → po = some ⟨g, 0, none⟩ ∧ PoolAt w' g L x) ∧ (∀ y ∈ L, w.heap.size ≤ y) ∧ Chg [] w w' ∧ MS (L ++ M) w' := by
  unfold Pool_New.f at H
  refine ent Try.func9 rfl [(0, .int .i64 a0), (1, .int .i64 b0)] rfl (by rfl) fun a ha => ?_
  refine wp_seq_k fun K hK => ?_
  refine wp_region_lit ?_
  refine seg ha 2 [(0, .int .i64 a0), (1, .int .i64 b0)] (by kernel_rfl) fun a ha => ?_
  refine hK _ _ ?_; clear hK K
  refine wp_seq_k fun K hK => ?_
  refine wp_seq_k fun K2 hK2 => ?_
  refine wp_region_lit ?_
  refine seg ha 17 [(0, .int .i64 a0), (1, .int .i64 b0), (22, .bool (if (if (if decide (a0 < (16 : Int)) = true then true else decide (a0 > (1048575 : Int))) = true then true else decide (b0 < (1 : Int))) = true then true else decide (b0 > IntKind.i64.wrap (IntKind.i64.wrap ((1048575 : Int) - a0) + (1 : Int)))))] (by kernel_rfl) fun a ha => ?_
  refine hK2 _ _ ?_; clear hK2 K2
  refine cnd ha rfl (fun hc => ?_) (fun hc => ?_)
  · have H := Option.some.inj (ite_t hc H)
    refine wp_seq_k fun K2 hK2 => ?_
    refine wp_region_lit ?_
    refine seg ha 2 [(4, .pointer none), (5, .int .i64 1)] (by kernel_rfl) fun a ha => ?_
    refine hK2 _ _ ?_; clear hK2 K2
    refine wp_ret ?_
    simp only [Exit.then, Exit.inBlock]
    subst H
    exact rt2 ha rfl rfl rfl ⟨none, 0, [], rfl, fun _ => ⟨rfl, rfl⟩, (fun x h => nomatch h), (fun _ h => nomatch h), Chg.refl _ _, hM⟩
  · have H := Option.some.inj (ite_f hc H)
    refine wp_skip ?_
    refine hK _ _ ?_; clear hK K
    refine wp_seq_k fun K hK => ?_
    refine wp_region_lit ?_
    refine seg ha 2 [(23, .int .i64 a0), (24, .int .i64 b0)] (by kernel_rfl) fun a ha => ?_
    refine mmk ha rfl rfl rfl fun a w1 g1 N1 ha => ?_
    refine mmk ha rfl rfl rfl fun a w2 g2 N2 ha => ?_
    refine opk (v := .agg #[.int .i64 a0, .int .i64 b0, .map (some g1), .map (some g2)]) ha rfl rfl rfl rfl rfl (fun w => by kernel_rfl) fun a ha => ?_
    refine bx (cs := [.int .i64 a0, .int .i64 b0, .map (some g1), .map (some g2)]) ha rfl rfl rfl rfl rfl fun a w3 g N3 ha => ?_
    refine seg ha 2 [(4, .pointer (some ⟨g, 0, none⟩)), (5, .int .i64 0)] (by kernel_rfl) fun a ha => ?_
    refine hK _ _ ?_; clear hK K
    refine wp_ret ?_
    subst H
    have z1 := N1.ge
    have z2 := N2.ge
    have z3 := N3.ge
    have s1 := N1.size
    have s2 := N2.size
    have s3 := N3.size
    have m1 : MapR kS (kI .i64) w3 g1 [] := (N1.mapR.chg N2.chg (fun h => nomatch h)).chg N3.chg (fun h => nomatch h)
    have m2 : MapR (kI .i64) kS w3 g2 [] := N2.mapR.chg N3.chg (fun h => nomatch h)
    refine rt2 ha rfl rfl rfl ⟨some ⟨g, 0, none⟩, g, [g, g1, g2], rfl, (fun h => nomatch h), ?_, ?_, ?_, ?_⟩
    · rintro x h
      obtain rfl := Option.some.inj h
      exact ⟨rfl, g1, g2, rfl, by omega, by omega, by omega, N3.box, m1, m2⟩
    · intro y hy
      simp at hy
      omega
    · exact (N1.chg.trans N2.chg (Ok.nil _ _)).trans N3.chg (Ok.nil _ _)
    · refine MS.app ?_ (((hM.chg N1.chg).chg N2.chg).chg N3.chg)
      intro y hy
      simp at hy
      omega
def Pool_Take.l0 (ow : List (Int × List UInt8)) : Nat → Int → Option Int
  | 0, _ => none
  | k + 1, n => if (mget ow n).isSome = true then Pool_Take.l0 ow k (IntKind.i64.wrap (n + (1 : Int))) else some n
def Pool_Take.f (k : Nat) (x : PoolS) (o : List UInt8) : Option (Int × Int × PoolS) :=
  if (mget x.labels o).isSome = true then some ((mget x.labels o).getD 0, 0, x) else
  if ((x.labels.length : Int) == x.count) = true then some (0, 6, x) else
  (Pool_Take.l0 x.owners k x.first).bind fun n => some (n, 0, ⟨x.first, x.count, mset x.labels o n, mset x.owners n o⟩)
theorem Pool_Take.walk (w : World) (M : List Nat) (hM : MS M w) (g : Nat) (L : List Nat) (x : PoolS) (f : PoolAt w g L x) (hL : ∀ y ∈ L, y ∈ M) (o : List UInt8) (k : Nat) (r : Int × Int × PoolS) (H : Pool_Take.f k x o = some r) :
    To Try.prog 10 [.pointer (some ⟨g, 0, none⟩), .string (bstr o)] w fun v w' => v = .tuple #[.int .i64 r.1, .int .i64 r.2.1] ∧ PoolAt w' g L r.2.2 ∧ Chg L w w' ∧ MS M w' := by
  unfold Pool_Take.f at H
  obtain ⟨g1, g2, rfl, n1, n2, n3, hB, h1, h2⟩ := f
  refine ent Try.func10 rfl [(0, .pointer (some ⟨g, 0, none⟩)), (1, .string (bstr o))] rfl (by rfl) fun a ha => ?_
  refine wp_seq_k fun K hK => ?_
  refine wp_region_lit ?_
  refine seg ha 2 [(0, .pointer (some ⟨g, 0, none⟩)), (1, .string (bstr o))] (by kernel_rfl) fun a ha => ?_
  refine hK _ _ ?_; clear hK K
  refine wp_seq_k fun K hK => ?_
  refine wp_seq_k fun K2 hK2 => ?_
  refine wp_region_lit ?_
  refine seg ha 3 [(0, .pointer (some ⟨g, 0, none⟩)), (1, .string (bstr o)), (14, .pointer (some ⟨g, 2, none⟩))] (by kernel_rfl) fun a ha => ?_
  refine ld (v := .map (some g1)) ha rfl (by kernel_rfl) rfl rfl rfl (hB.cell' (o := 2) rfl rfl) fun a ha => ?_
  refine seg ha 1 [(0, .pointer (some ⟨g, 0, none⟩)), (1, .string (bstr o)), (15, .map (some g1)), (16, .string (bstr o))] (by kernel_rfl) fun a ha => ?_
  refine mlk (k := o) (z := (0 : Int)) ha u54 K9 rfl rfl (fun w => by kernel_rfl) rfl rfl rfl h1 fun a ha => ?_
  refine seg ha 5 [(0, .pointer (some ⟨g, 0, none⟩)), (1, .string (bstr o)), (6, .int .i64 ((mget x.labels o).getD 0)), (7, .bool (mget x.labels o).isSome)] (by kernel_rfl) fun a ha => ?_
  refine hK2 _ _ ?_; clear hK2 K2
  refine wp_seq_k fun K2 hK2 => ?_
  refine wp_region_lit ?_
  refine seg ha 1 [(0, .pointer (some ⟨g, 0, none⟩)), (1, .string (bstr o)), (6, .int .i64 ((mget x.labels o).getD 0)), (20, .bool (mget x.labels o).isSome)] (by kernel_rfl) fun a ha => ?_
  refine hK2 _ _ ?_; clear hK2 K2
  refine cnd ha rfl (fun hc => ?_) (fun hc => ?_)
  · have H := Option.some.inj (ite_t hc H)
    refine wp_seq_k fun K2 hK2 => ?_
    refine wp_region_lit ?_
    refine seg ha 3 [(4, .int .i64 ((mget x.labels o).getD 0)), (5, .int .i64 0)] (by kernel_rfl) fun a ha => ?_
    refine hK2 _ _ ?_; clear hK2 K2
    refine wp_ret ?_
    simp only [Exit.then, Exit.inBlock]
    subst H
    exact rt2 ha rfl rfl rfl ⟨rfl, ⟨g1, g2, rfl, n1, n2, n3, hB, h1, h2⟩, Chg.refl _ _, hM⟩
  have H := ite_f hc H
  refine wp_skip ?_
  refine hK _ _ ?_; clear hK K
  refine wp_seq_k fun K hK => ?_
  refine wp_seq_k fun K2 hK2 => ?_
  refine drq0 (fun w' => Chg [] w w') (by kernel_rfl) (by kernel_rfl) (fun _ h => h) ?_
  refine qp 0 (.pointer (some ⟨g, 0, none⟩)) ha rfl rfl rfl (by kernel_rfl) fun a ha => ?_
  refine qp 0 (.pointer (some ⟨g, 0, none⟩)) ha rfl rfl rfl (by kernel_rfl) fun a ha => ?_
  refine qp 0 (.pointer (some ⟨g, 2, none⟩)) ha rfl rfl rfl (by kernel_rfl) fun a ha => ?_
  refine qv (v := .map (some g1)) ha rfl rfl rfl (fun w' hs => ld_run ha rfl (by kernel_rfl) ((hB.chg hs (fun h => nomatch h)).cell' (o := 2) rfl rfl)) fun a ha => ?_
  refine qv (v := .int .i64 (x.labels.length : Int)) ha rfl rfl rfl (fun w' hs => mln_run ha u54 rfl (h1.chg hs (fun h => nomatch h))) fun a ha => ?_
  refine qp 0 (.pointer (some ⟨g, 0, none⟩)) ha rfl rfl rfl (by kernel_rfl) fun a ha => ?_
  refine qp 0 (.pointer (some ⟨g, 0, none⟩)) ha rfl rfl rfl (by kernel_rfl) fun a ha => ?_
  refine qp 0 (.pointer (some ⟨g, 1, none⟩)) ha rfl rfl rfl (by kernel_rfl) fun a ha => ?_
  refine qv (v := .int .i64 x.count) ha rfl rfl rfl (fun w' hs => ld_run ha rfl (by kernel_rfl) ((hB.chg hs (fun h => nomatch h)).cell' (o := 1) rfl rfl)) fun a ha => ?_
  refine qp 0 (.bool ((x.labels.length : Int) == x.count)) ha rfl rfl rfl (by kernel_rfl) fun a ha => ?_
  have ha := ha.sel (env' := [(31, .bool ((x.labels.length : Int) == x.count)), (0, .pointer (some ⟨g, 0, none⟩)), (1, .string (bstr o))]) (by kernel_rfl)
  intro w1 hs
  refine wpl_end ?_
  have hB := hB.chg hs (fun h => nomatch h)
  have h1 := h1.chg hs (fun h => nomatch h)
  have h2 := h2.chg hs (fun h => nomatch h)
  have hM := hM.chg hs
  have hC : Chg [g, g1, g2] w w1 := hs.mono (Ok.nil _ _)
  refine hK2 _ _ ?_; clear hK2 K2
  refine cnd ha rfl (fun hc2 => ?_) (fun hc2 => ?_)
  · have H := Option.some.inj (ite_t hc2 H)
    refine wp_seq_k fun K2 hK2 => ?_
    refine wp_region_lit ?_
    refine seg ha 2 [(4, .int .i64 0), (5, .int .i64 6)] (by kernel_rfl) fun a ha => ?_
    refine hK2 _ _ ?_; clear hK2 K2
    refine wp_ret ?_
    simp only [Exit.then, Exit.inBlock]
    subst H
    exact rt2 ha rfl rfl rfl ⟨rfl, ⟨g1, g2, rfl, n1, n2, n3, hB, h1, h2⟩, hC, hM⟩
  have H := ite_f hc2 H
  refine wp_skip ?_
  refine hK _ _ ?_; clear hK K
  obtain ⟨s, Hs, H⟩ := bind_some H
  have H := Option.some.inj H
  refine wp_seq_k fun K hK => ?_
  refine wp_region_lit ?_
  refine seg ha 3 [(0, .pointer (some ⟨g, 0, none⟩)), (1, .string (bstr o)), (34, .pointer (some ⟨g, 0, none⟩))] (by kernel_rfl) fun a ha => ?_
  refine ld (v := .int .i64 x.first) ha rfl (by kernel_rfl) rfl rfl rfl (hB.cell' (o := 0) rfl rfl) fun a ha => ?_
  refine seg ha 1 [(0, .pointer (some ⟨g, 0, none⟩)), (1, .string (bstr o)), (8, .int .i64 x.first)] (by kernel_rfl) fun a ha => ?_
  refine hK _ _ ?_; clear hK K
  refine wp_seq_k fun K hK => ?_
  refine wp_seq_k fun K2 hK2 => ?_
  refine wp_region_lit ?_
  refine seg ha 3 [(0, .pointer (some ⟨g, 0, none⟩)), (1, .string (bstr o)), (8, .int .i64 x.first), (39, .pointer (some ⟨g, 3, none⟩))] (by kernel_rfl) fun a ha => ?_
  refine ld (v := .map (some g2)) ha rfl (by kernel_rfl) rfl rfl rfl (hB.cell' (o := 3) rfl rfl) fun a ha => ?_
  refine seg ha 1 [(0, .pointer (some ⟨g, 0, none⟩)), (1, .string (bstr o)), (8, .int .i64 x.first), (40, .map (some g2)), (41, .int .i64 x.first)] (by kernel_rfl) fun a ha => ?_
  refine mlk (k := x.first) (z := ([] : List UInt8)) ha u55 K3 rfl rfl (fun w => by kernel_rfl) rfl rfl rfl h2 fun a ha => ?_
  refine seg ha 5 [(0, .pointer (some ⟨g, 0, none⟩)), (1, .string (bstr o)), (8, .int .i64 x.first), (10, .bool (mget x.owners x.first).isSome)] (by kernel_rfl) fun a ha => ?_
  refine hK2 _ _ ?_; clear hK2 K2
  refine wp_block ?_
  have J : ∀ (a : Act) (w1 : World), Has a Try.f10.ntmps [(0, .pointer (some ⟨g, 0, none⟩)), (1, .string (bstr o)), (8, .int .i64 s)] → Box w1 g [.int .i64 x.first, .int .i64 x.count, .map (some g1), .map (some g2)] → MapR kS (kI .i64) w1 g1 x.labels → MapR (kI .i64) kS w1 g2 x.owners → Chg [g, g1, g2] w w1 → MS M w1 → K a w1 := by
    intro a w1 ha hB h1 h2 hC hM
    refine hK _ _ ?_; clear hK K
    refine wp_seq_k fun K hK => ?_
    refine drw (fun w' => Chg [g1, g2] w1 w') (by kernel_rfl) fun w2 hs _ => ?_
    have hS : Chg [g1, g2] w1 w2 := hs.mono (Ok.nil _ _)
    refine tkpz 0 0 (.pointer (some ⟨g, 0, none⟩)) ha (s := hS) (q := fun a ha => ?_)
    refine tkpz 1 0 (.pointer (some ⟨g, 0, none⟩)) ha (s := hS) (q := fun a ha => ?_)
    refine tkpz 2 0 (.pointer (some ⟨g, 2, none⟩)) ha (s := hS) (q := fun a ha => ?_)
    refine tkz 3 ha (v := .map (some g1)) (y := fun w' hs => ld_run ha rfl (by kernel_rfl) ((hB.chg hs (by simp [n1, n2])).cell' (o := 2) rfl rfl)) (s := hS) (q := fun a ha => ?_)
    refine tkpz 4 0 (.string (bstr o)) ha (s := hS) (q := fun a ha => ?_)
    refine tkpz 5 0 (.pointer (some ⟨g, 0, none⟩)) ha (s := hS) (q := fun a ha => ?_)
    refine tkpz 6 0 (.pointer (some ⟨g, 0, none⟩)) ha (s := hS) (q := fun a ha => ?_)
    refine tkpz 7 0 (.pointer (some ⟨g, 3, none⟩)) ha (s := hS) (q := fun a ha => ?_)
    refine tkz 8 ha (v := .map (some g2)) (y := fun w' hs => ld_run ha rfl (by kernel_rfl) ((hB.chg hs (by simp [n1, n2])).cell' (o := 3) rfl rfl)) (s := hS) (q := fun a ha => ?_)
    refine tkpz 9 0 (.int .i64 s) ha (s := hS) (q := fun a ha => ?_)
    refine tkpz 10 0 (.int .i64 s) ha (s := hS) (q := fun a ha => ?_)
    refine tkpz 11 0 (.string (bstr o)) ha (s := hS) (q := fun a ha => ?_)
    have ha := ha.sel (env' := [(60, .map (some g1)), (61, .string (bstr o)), (67, .int .i64 s), (65, .map (some g2)), (66, .int .i64 s), (68, .string (bstr o)), (8, .int .i64 s)]) (by kernel_rfl)
    have hB := hB.chg hs (fun h => nomatch h)
    have h1 := h1.chg hs (fun h => nomatch h)
    have h2 := h2.chg hs (fun h => nomatch h)
    have hM := hM.chg hs
    have hC := hC.trans hs (Ok.nil _ _)
    refine ac 12 (by kernel_rfl) rfl fun K2 hK2 => ?_
    refine men (k := o) (z := (0 : Int)) ha u54 K9 rfl rfl (fun w => by kernel_rfl) rfl rfl rfl h1 fun a w3 st ha e1 c3 => ?_
    have hS := hS.trans c3 (Ok.one (.inl (by simp)))
    have hB := hB.chg c3 (by simp [n1])
    have h2 := h2.chg c3 (by simp [Ne.symm n3])
    have hM := hM.chg c3
    have hC := hC.trans c3 (Ok.one (.inl (by simp)))
    refine ae hK2 hS ?_
    clear hK2 K2
    refine tkpz 13 0 (.int .i64 st) ha (s := hS) (q := fun a ha => ?_)
    refine ac 14 (by kernel_rfl) rfl fun K2 hK2 => ?_
    refine mes (v := s) (kv := kS) (k := o) ha rfl rfl rfl rfl e1 fun a w4 ha h1 c4 => ?_
    have hS := hS.trans c4 (Ok.one (.inl (by simp)))
    have hB := hB.chg c4 (by simp [n1])
    have h2 := h2.chg c4 (by simp [Ne.symm n3])
    have hM := hM.chg c4
    have hC := hC.trans c4 (Ok.one (.inl (by simp)))
    refine ae hK2 hS ?_
    clear hK2 K2
    refine ac 15 (by kernel_rfl) rfl fun K2 hK2 => ?_
    refine men (k := s) (z := ([] : List UInt8)) ha u55 K3 rfl rfl (fun w => by kernel_rfl) rfl rfl rfl h2 fun a w5 st2 ha e2 c5 => ?_
    have hS := hS.trans c5 (Ok.one (.inl (by simp)))
    have hB := hB.chg c5 (by simp [n2])
    have h1 := h1.chg c5 (by simp [n3])
    have hM := hM.chg c5
    have hC := hC.trans c5 (Ok.one (.inl (by simp)))
    refine ae hK2 hS ?_
    clear hK2 K2
    refine tkpz 16 0 (.int .i64 st2) ha (s := hS) (q := fun a ha => ?_)
    refine ac 17 (by kernel_rfl) rfl fun K2 hK2 => ?_
    refine mes (v := o) (kv := kI .i64) (k := s) ha rfl rfl rfl rfl e2 fun a w6 ha h2 c6 => ?_
    have hS := hS.trans c6 (Ok.one (.inl (by simp)))
    have hB := hB.chg c6 (by simp [n2])
    have h1 := h1.chg c6 (by simp [n3])
    have hM := hM.chg c6
    have hC := hC.trans c6 (Ok.one (.inl (by simp)))
    refine ae hK2 hS ?_
    clear hK2 K2
    refine dn (by kernel_rfl) ?_
    have ha := ha.sel (env' := [(8, .int .i64 s)]) (by kernel_rfl)
    refine hK _ _ ?_; clear hK K
    refine wp_seq_k fun K hK => ?_
    refine wp_region_lit ?_
    refine seg ha 3 [(4, .int .i64 s), (5, .int .i64 0)] (by kernel_rfl) fun a ha => ?_
    refine hK _ _ ?_; clear hK K
    refine wp_ret ?_
    subst H
    exact rt2 ha rfl rfl rfl ⟨rfl, ⟨g1, g2, rfl, n1, n2, n3, hB, h1, h2⟩, hC, hM⟩
  refine wp_loop_ghost (fun kk a w1 => ∃ n : Int, Pool_Take.l0 x.owners kk n = some s ∧ Has a Try.f10.ntmps [(0, .pointer (some ⟨g, 0, none⟩)), (1, .string (bstr o)), (8, .int .i64 n), (10, .bool (mget x.owners n).isSome)] ∧ Box w1 g [.int .i64 x.first, .int .i64 x.count, .map (some g1), .map (some g2)] ∧ MapR kS (kI .i64) w1 g1 x.labels ∧ MapR (kI .i64) kS w1 g2 x.owners ∧ Chg [g, g1, g2] w w1 ∧ MS M w1) k ?_ ?_
  · exact ⟨x.first, Hs, ha.sel (by kernel_rfl), hB, h1, h2, hC, hM⟩
  · rintro kk a w2 ⟨n, Hn, ha, hB, h1, h2, hC, hM⟩
    obtain _ | kk := kk
    · exact nomatch (show none = some _ from Hn)
    rw [Pool_Take.l0] at Hn
    refine wp_seq_k fun K2 hK2 => ?_
    refine wp_seq_k fun K3 hK3 => ?_
    refine wp_region_lit ?_
    refine seg ha 1 [(0, .pointer (some ⟨g, 0, none⟩)), (1, .string (bstr o)), (8, .int .i64 n), (45, .bool (mget x.owners n).isSome)] (by kernel_rfl) fun a ha => ?_
    refine hK3 _ _ ?_; clear hK3 K3
    refine cnd ha rfl (fun hc3 => ?_) (fun hc3 => ?_)
    · have Hn := ite_t hc3 Hn
      refine wp_skip ?_
      refine hK2 _ _ ?_; clear hK2 K2
      refine wp_seq_k fun K2 hK2 => ?_
      refine wp_block ?_
      refine wp_region_lit ?_
      refine seg ha 3 [(0, .pointer (some ⟨g, 0, none⟩)), (1, .string (bstr o)), (8, .int .i64 (IntKind.i64.wrap (n + (1 : Int))))] (by kernel_rfl) fun a ha => ?_
      refine hK2 _ _ ?_; clear hK2 K2
      refine wp_region_lit ?_
      refine seg ha 3 [(0, .pointer (some ⟨g, 0, none⟩)), (1, .string (bstr o)), (8, .int .i64 (IntKind.i64.wrap (n + (1 : Int)))), (49, .pointer (some ⟨g, 3, none⟩))] (by kernel_rfl) fun a ha => ?_
      refine ld (v := .map (some g2)) ha rfl (by kernel_rfl) rfl rfl rfl (hB.cell' (o := 3) rfl rfl) fun a ha => ?_
      refine seg ha 1 [(0, .pointer (some ⟨g, 0, none⟩)), (1, .string (bstr o)), (8, .int .i64 (IntKind.i64.wrap (n + (1 : Int)))), (50, .map (some g2)), (51, .int .i64 (IntKind.i64.wrap (n + (1 : Int))))] (by kernel_rfl) fun a ha => ?_
      refine mlk (k := IntKind.i64.wrap (n + (1 : Int))) (z := ([] : List UInt8)) ha u55 K3 rfl rfl (fun w => by kernel_rfl) rfl rfl rfl h2 fun a ha => ?_
      refine seg ha 4 [(0, .pointer (some ⟨g, 0, none⟩)), (1, .string (bstr o)), (8, .int .i64 (IntKind.i64.wrap (n + (1 : Int)))), (10, .bool (mget x.owners (IntKind.i64.wrap (n + (1 : Int)))).isSome)] (by kernel_rfl) fun a ha => ?_
      exact ⟨kk, Nat.lt_succ_self _, ⟨_, Hn, ha.sel (by kernel_rfl), hB, h1, h2, hC, hM⟩⟩
    · have Hn := ite_f hc3 Hn
      refine wp_exit ?_
      simp only [Exit.then, Exit.inBlock, ↓reduceIte, Nat.reduceEqDiff]
      obtain rfl := Option.some.inj Hn
      exact J _ _ (ha.sel (by kernel_rfl)) hB h1 h2 hC hM



def vinerylaw05_small.f (k : Nat) : Option (Bool) := (label_Bytes.f k (16 : Int) true).bind fun t3 => (Pool_New.f (16 : Int) (2 : Int)).bind fun t6 => om t6.1 (some ((false : Bool))) fun x6 => (Pool_Take.f k x6 ([97] : List UInt8)).bind fun t15 => (Pool_Take.f k t15.2.2 ([98] : List UInt8)).bind fun t17 => (Pool_Take.f k t17.2.2 ([99] : List UInt8)).bind fun t19 => (Pool_Free.f t19.2.2 ([97] : List UInt8)).bind fun t21 => (Pool_Take.f k t21.2 ([99] : List UInt8)).bind fun t23 => ((if (t3.2 == (0 : Int)) = true then (if ((bstr (b2s t3.1)).toList == (bstr ([0, 1, 1] : List UInt8)).toList) = true then (if (t6.2 == (0 : Int)) = true then (if (t15.2.1 == (0 : Int)) = true then (if (t15.1 == (16 : Int)) = true then (if (t17.2.1 == (0 : Int)) = true then (if (t17.1 == (17 : Int)) = true then (if (t19.2.1 == (6 : Int)) = true then (if t21.1 = true then (if (t23.2.1 == (0 : Int)) = true then some (t23.1 == (16 : Int) : Bool) else some (false : Bool)) else some (false : Bool)) else some (false : Bool)) else some (false : Bool)) else some (false : Bool)) else some (false : Bool)) else some (false : Bool)) else some (false : Bool)) else some (false : Bool)) else some (false : Bool))).bind fun s25 => some ((s25 : Bool))
set_option maxRecDepth 100000 in
theorem vinerylaw05_small.walk (w : World) (M : List Nat) (hM : MS M w)  (k : Nat) (r : Bool) (H : vinerylaw05_small.f k = some r) :
    To Try.prog 8 [] w fun v w' => v = .bool r ∧ Chg [] w w' ∧ MS (M) w' := by
 unfold vinerylaw05_small.f at H
 refine ent Try.func8 rfl [] rfl (by rfl) fun a ha => ?_
 have hC : Chg [] w w := Chg.refl _ _
 refine wp_seq_k fun K1 hK1 => ?_
 refine wp_region_lit ?_
 refine seg ha 1 [] (by kernel_rfl) fun a ha => ?_
 refine hK1 _ _ ?_; try clear hK1 K1
 refine wp_seq_k fun K2 hK2 => ?_
 refine wp_region_lit ?_
 obtain ⟨t3, H3, H⟩ := bind_some H
 refine cl ha (by rfl) (by kernel_rfl) (by rfl) (by rfl) (by rfl) (label_Bytes.walk w _ hM (16 : Int) true k _ H3) ?_
 rintro _ w3 ⟨ao4, cap4, rfl, f4, ne_i4, hc3, hMn⟩ a ha
 have p_i4_M : ∀ x ∈ blkL ao4, x ∉ M := fun x hx hy => absurd (hM x (hy)) (Nat.not_lt.2 (ne_i4 x hx))
 have e_i4 : ∀ x ∈ blkL ao4, w.heap.size ≤ x := fun x hx => Nat.le_trans hC.size (ne_i4 x hx)
 have hM : MS (blkL ao4 ++ (M)) w3 := (MS.app (fun x h => hMn x (ml h)) (hM.chg hc3))
 have hC := hC.trans hc3 (Ok.nil _ _)
 refine seg ha 5 [(1, .slice ao4 t3.1.length cap4), (2, .int .i64 t3.2)] (by kernel_rfl) fun a ha => ?_
 refine hK2 _ _ ?_; try clear hK2 K2
 refine wp_seq_k fun K5 hK5 => ?_
 refine wp_region_lit ?_
 obtain ⟨t6, H6, H⟩ := bind_some H
 refine cl ha (by rfl) (by kernel_rfl) (by rfl) (by rfl) (by rfl) (Pool_New.walk w3 _ hM (16 : Int) (2 : Int) _ H6) ?_
 rintro _ w6 ⟨po6, gO6, L6, rfl, hn6, hs6, ne_i6, hc6, hMn⟩ a ha
 rcases om_cases H with ⟨he6, H⟩ | ⟨x6, he6, H⟩
 ·skip
  obtain ⟨rfl, rfl⟩ := hn6 he6
  have o1 : Ok [] (blkL ao4 ++ (M)) w3.heap.size := Ok.nil _ _
  have o2 : Ok (blkL ao4 ++ (M)) (blkL ao4 ++ (M)) w3.heap.size := (Ok.refl _ _)
  have f4 := f4.chg hc6 o1 o2 (fun _ _ h => nomatch h) (fun _ h => ml h)
  have hM : MS (blkL ao4 ++ (M)) w6 := (hM.chg hc6)
  have hC := hC.trans hc6 (Ok.nil _ _)
  refine seg ha 5 [(1, .slice ao4 t3.1.length cap4), (2, .int .i64 t3.2), (3, .pointer none), (4, .int .i64 t6.2)] (by kernel_rfl) fun a ha => ?_
  refine hK5 _ _ ?_; try clear hK5 K5
  refine wp_seq_k fun K7 hK7 => ?_
  refine wp_seq_k fun K8 hK8 => ?_
  refine wp_region_lit ?_
  refine seg ha 2 [(1, .slice ao4 t3.1.length cap4), (2, .int .i64 t3.2), (3, .pointer none), (4, .int .i64 t6.2), (23, .bool true)] (by kernel_rfl) fun a ha => ?_
  refine hK8 _ _ ?_; try clear hK8 K8
  refine cnd ha rfl (fun _ => ?_) (fun h => nomatch h)
  refine wp_seq_k fun K10 hK10 => ?_
  refine wp_region_lit ?_
  refine seg ha 1 [(0, .bool false)] (by kernel_rfl) fun a ha => ?_
  refine hK10 _ _ ?_; try clear hK10 K10
  refine wp_ret ?_
  try simp only [Exit.then, Exit.inBlock]
  have hM : MS (M) w6 := (fun x h => hM.chg (Chg.refl [] _) x (mr (h)))
  have hC := hC.trans (Chg.refl [] _) (Ok.nil _ _)
  obtain rfl := Option.some.inj H
  refine rt1 ha rfl rfl ?_
  exact ⟨rfl, hC, hM⟩
 ·skip
  obtain ⟨rfl, fO6⟩ := hs6 x6 he6
  have o1 : Ok [] (blkL ao4 ++ (M)) w3.heap.size := Ok.nil _ _
  have o2 : Ok (L6 ++ (blkL ao4 ++ (M))) (blkL ao4 ++ (M)) w3.heap.size := (Ok.app (fun x h => .inr (ne_i6 x h)) (Ok.refl _ _))
  have f4 := f4.chg hc6 o1 o2 (fun _ _ h => nomatch h) (fun _ h => mr (ml h))
  have p_i6_i4 : ∀ x ∈ L6, x ∉ (blkL ao4) := fun x hx hy => absurd (hM x (ml hy)) (Nat.not_lt.2 (ne_i6 x hx))
  have p_i6_M : ∀ x ∈ L6, x ∉ M := fun x hx hy => absurd (hM x (mr (hy))) (Nat.not_lt.2 (ne_i6 x hx))
  have e_i6 : ∀ x ∈ L6, w.heap.size ≤ x := fun x hx => Nat.le_trans hC.size (ne_i6 x hx)
  have hM : MS (L6 ++ (blkL ao4 ++ (M))) w6 := (MS.app (fun x h => hMn x (ml h)) (hM.chg hc6))
  have hC := hC.trans hc6 (Ok.nil _ _)
  refine seg ha 5 [(1, .slice ao4 t3.1.length cap4), (2, .int .i64 t3.2), (3, .pointer (some ⟨gO6, 0, none⟩)), (4, .int .i64 t6.2)] (by kernel_rfl) fun a ha => ?_
  refine hK5 _ _ ?_; try clear hK5 K5
  refine wp_seq_k fun K11 hK11 => ?_
  refine wp_seq_k fun K12 hK12 => ?_
  refine wp_region_lit ?_
  refine seg ha 2 [(1, .slice ao4 t3.1.length cap4), (2, .int .i64 t3.2), (3, .pointer (some ⟨gO6, 0, none⟩)), (4, .int .i64 t6.2), (23, .bool false)] (by kernel_rfl) fun a ha => ?_
  refine hK12 _ _ ?_; try clear hK12 K12
  refine cnd ha rfl (fun h => nomatch h) (fun _ => ?_)
  refine wp_skip ?_
  refine hK11 _ _ ?_; try clear hK11 K11
  refine wp_seq_k fun K14 hK14 => ?_
  refine wp_region_lit ?_
  refine seg ha 1 [(1, .slice ao4 t3.1.length cap4), (2, .int .i64 t3.2), (3, .pointer (some ⟨gO6, 0, none⟩)), (4, .int .i64 t6.2), (25, .pointer (some ⟨gO6, 0, none⟩))] (by kernel_rfl) fun a ha => ?_
  obtain ⟨t15, H15, H⟩ := bind_some H
  refine cl ha (by rfl) (by kernel_rfl) (by rfl) (by rfl) (by rfl) (Pool_Take.walk w6 _ hM gO6 L6 x6 fO6 (fun _ h => ml h) ([97] : List UInt8) k _ H15) ?_
  rintro _ w15 ⟨rfl, nf15, hc15, hMn⟩ a ha
  have o1 : Ok L6 (L6 ++ (blkL ao4 ++ (M))) w6.heap.size := (fun _ h => .inl (ml h))
  have o2 : Ok (L6 ++ (blkL ao4 ++ (M))) (L6 ++ (blkL ao4 ++ (M))) w6.heap.size := (Ok.refl _ _)
  have f4 := f4.chg hc15 o1 o2 (fun x (hx : x ∈ blkL ao4) (hy : x ∈ L6) => p_i6_i4 x hy hx) (fun _ h => mr (ml h))
  have hM : MS (L6 ++ (blkL ao4 ++ (M))) w15 := (hM.chg hc15)
  have hC := hC.trans hc15 (fun x h => .inr (e_i6 x h))
  have fO6 := nf15
  refine seg ha 5 [(1, .slice ao4 t3.1.length cap4), (2, .int .i64 t3.2), (3, .pointer (some ⟨gO6, 0, none⟩)), (4, .int .i64 t6.2), (5, .int .i64 t15.1), (6, .int .i64 t15.2.1)] (by kernel_rfl) fun a ha => ?_
  refine hK14 _ _ ?_; try clear hK14 K14
  refine wp_seq_k fun K16 hK16 => ?_
  refine wp_region_lit ?_
  refine seg ha 1 [(1, .slice ao4 t3.1.length cap4), (2, .int .i64 t3.2), (3, .pointer (some ⟨gO6, 0, none⟩)), (4, .int .i64 t6.2), (5, .int .i64 t15.1), (6, .int .i64 t15.2.1), (30, .pointer (some ⟨gO6, 0, none⟩))] (by kernel_rfl) fun a ha => ?_
  obtain ⟨t17, H17, H⟩ := bind_some H
  refine cl ha (by rfl) (by kernel_rfl) (by rfl) (by rfl) (by rfl) (Pool_Take.walk w15 _ hM gO6 L6 t15.2.2 fO6 (fun _ h => ml h) ([98] : List UInt8) k _ H17) ?_
  rintro _ w17 ⟨rfl, nf17, hc17, hMn⟩ a ha
  have o1 : Ok L6 (L6 ++ (blkL ao4 ++ (M))) w15.heap.size := (fun _ h => .inl (ml h))
  have o2 : Ok (L6 ++ (blkL ao4 ++ (M))) (L6 ++ (blkL ao4 ++ (M))) w15.heap.size := (Ok.refl _ _)
  have f4 := f4.chg hc17 o1 o2 (fun x (hx : x ∈ blkL ao4) (hy : x ∈ L6) => p_i6_i4 x hy hx) (fun _ h => mr (ml h))
  have hM : MS (L6 ++ (blkL ao4 ++ (M))) w17 := (hM.chg hc17)
  have hC := hC.trans hc17 (fun x h => .inr (e_i6 x h))
  have fO6 := nf17
  refine seg ha 5 [(1, .slice ao4 t3.1.length cap4), (2, .int .i64 t3.2), (3, .pointer (some ⟨gO6, 0, none⟩)), (4, .int .i64 t6.2), (5, .int .i64 t15.1), (6, .int .i64 t15.2.1), (7, .int .i64 t17.1), (8, .int .i64 t17.2.1)] (by kernel_rfl) fun a ha => ?_
  refine hK16 _ _ ?_; try clear hK16 K16
  refine wp_seq_k fun K18 hK18 => ?_
  refine wp_region_lit ?_
  refine seg ha 1 [(1, .slice ao4 t3.1.length cap4), (2, .int .i64 t3.2), (3, .pointer (some ⟨gO6, 0, none⟩)), (4, .int .i64 t6.2), (5, .int .i64 t15.1), (6, .int .i64 t15.2.1), (7, .int .i64 t17.1), (8, .int .i64 t17.2.1), (35, .pointer (some ⟨gO6, 0, none⟩))] (by kernel_rfl) fun a ha => ?_
  obtain ⟨t19, H19, H⟩ := bind_some H
  refine cl ha (by rfl) (by kernel_rfl) (by rfl) (by rfl) (by rfl) (Pool_Take.walk w17 _ hM gO6 L6 t17.2.2 fO6 (fun _ h => ml h) ([99] : List UInt8) k _ H19) ?_
  rintro _ w19 ⟨rfl, nf19, hc19, hMn⟩ a ha
  have o1 : Ok L6 (L6 ++ (blkL ao4 ++ (M))) w17.heap.size := (fun _ h => .inl (ml h))
  have o2 : Ok (L6 ++ (blkL ao4 ++ (M))) (L6 ++ (blkL ao4 ++ (M))) w17.heap.size := (Ok.refl _ _)
  have f4 := f4.chg hc19 o1 o2 (fun x (hx : x ∈ blkL ao4) (hy : x ∈ L6) => p_i6_i4 x hy hx) (fun _ h => mr (ml h))
  have hM : MS (L6 ++ (blkL ao4 ++ (M))) w19 := (hM.chg hc19)
  have hC := hC.trans hc19 (fun x h => .inr (e_i6 x h))
  have fO6 := nf19
  refine seg ha 5 [(1, .slice ao4 t3.1.length cap4), (2, .int .i64 t3.2), (3, .pointer (some ⟨gO6, 0, none⟩)), (4, .int .i64 t6.2), (5, .int .i64 t15.1), (6, .int .i64 t15.2.1), (7, .int .i64 t17.1), (8, .int .i64 t17.2.1), (10, .int .i64 t19.2.1)] (by kernel_rfl) fun a ha => ?_
  refine hK18 _ _ ?_; try clear hK18 K18
  refine wp_seq_k fun K20 hK20 => ?_
  refine wp_region_lit ?_
  refine seg ha 1 [(1, .slice ao4 t3.1.length cap4), (2, .int .i64 t3.2), (3, .pointer (some ⟨gO6, 0, none⟩)), (4, .int .i64 t6.2), (5, .int .i64 t15.1), (6, .int .i64 t15.2.1), (7, .int .i64 t17.1), (8, .int .i64 t17.2.1), (10, .int .i64 t19.2.1), (39, .pointer (some ⟨gO6, 0, none⟩))] (by kernel_rfl) fun a ha => ?_
  obtain ⟨t21, H21, H⟩ := bind_some H
  refine cl ha (by rfl) (by kernel_rfl) (by rfl) (by rfl) (by rfl) (Pool_Free.walk w19 _ hM gO6 L6 t19.2.2 fO6 (fun _ h => ml h) ([97] : List UInt8) _ H21) ?_
  rintro _ w21 ⟨rfl, nf21, hc21, hMn⟩ a ha
  have o1 : Ok L6 (L6 ++ (blkL ao4 ++ (M))) w19.heap.size := (fun _ h => .inl (ml h))
  have o2 : Ok (L6 ++ (blkL ao4 ++ (M))) (L6 ++ (blkL ao4 ++ (M))) w19.heap.size := (Ok.refl _ _)
  have f4 := f4.chg hc21 o1 o2 (fun x (hx : x ∈ blkL ao4) (hy : x ∈ L6) => p_i6_i4 x hy hx) (fun _ h => mr (ml h))
  have hM : MS (L6 ++ (blkL ao4 ++ (M))) w21 := (hM.chg hc21)
  have hC := hC.trans hc21 (fun x h => .inr (e_i6 x h))
  have fO6 := nf21
  refine seg ha 1 [(1, .slice ao4 t3.1.length cap4), (2, .int .i64 t3.2), (3, .pointer (some ⟨gO6, 0, none⟩)), (4, .int .i64 t6.2), (5, .int .i64 t15.1), (6, .int .i64 t15.2.1), (7, .int .i64 t17.1), (8, .int .i64 t17.2.1), (10, .int .i64 t19.2.1), (11, .bool t21.1)] (by kernel_rfl) fun a ha => ?_
  refine hK20 _ _ ?_; try clear hK20 K20
  refine wp_seq_k fun K22 hK22 => ?_
  refine wp_region_lit ?_
  refine seg ha 1 [(1, .slice ao4 t3.1.length cap4), (2, .int .i64 t3.2), (4, .int .i64 t6.2), (5, .int .i64 t15.1), (6, .int .i64 t15.2.1), (7, .int .i64 t17.1), (8, .int .i64 t17.2.1), (10, .int .i64 t19.2.1), (11, .bool t21.1), (42, .pointer (some ⟨gO6, 0, none⟩))] (by kernel_rfl) fun a ha => ?_
  obtain ⟨t23, H23, H⟩ := bind_some H
  refine cl ha (by rfl) (by kernel_rfl) (by rfl) (by rfl) (by rfl) (Pool_Take.walk w21 _ hM gO6 L6 t21.2 fO6 (fun _ h => ml h) ([99] : List UInt8) k _ H23) ?_
  rintro _ w23 ⟨rfl, nf23, hc23, hMn⟩ a ha
  have o1 : Ok L6 (L6 ++ (blkL ao4 ++ (M))) w21.heap.size := (fun _ h => .inl (ml h))
  have o2 : Ok (L6 ++ (blkL ao4 ++ (M))) (L6 ++ (blkL ao4 ++ (M))) w21.heap.size := (Ok.refl _ _)
  have f4 := f4.chg hc23 o1 o2 (fun x (hx : x ∈ blkL ao4) (hy : x ∈ L6) => p_i6_i4 x hy hx) (fun _ h => mr (ml h))
  have hM : MS (L6 ++ (blkL ao4 ++ (M))) w23 := (hM.chg hc23)
  have hC := hC.trans hc23 (fun x h => .inr (e_i6 x h))
  have fO6 := nf23
  refine seg ha 5 [(1, .slice ao4 t3.1.length cap4), (2, .int .i64 t3.2), (4, .int .i64 t6.2), (5, .int .i64 t15.1), (6, .int .i64 t15.2.1), (7, .int .i64 t17.1), (8, .int .i64 t17.2.1), (10, .int .i64 t19.2.1), (11, .bool t21.1), (12, .int .i64 t23.1), (13, .int .i64 t23.2.1)] (by kernel_rfl) fun a ha => ?_
  refine hK22 _ _ ?_; try clear hK22 K22
  refine wp_seq_k fun K24 hK24 => ?_
  refine wp_region_lit ?_
  obtain ⟨s25, H25, H⟩ := bind_some H
  have J25 : ∀ (a : Act) (w25 : World), Has a Try.f8.ntmps [(0, .bool s25)] → (Chg [] w w25) → (MS (M) w25) → K24 a w25 := by
   intro a w25 ha hC hM
   refine hK24 _ _ ?_; try clear hK24 K24
   refine wp_ret ?_
   try simp only [Exit.then, Exit.inBlock]
   obtain rfl := Option.some.inj H
   refine rt1 ha rfl rfl ?_
   exact ⟨rfl, hC, hM⟩
  have H := H25
  refine seg ha 3 [(48, .bool (t3.2 == (0 : Int))), (1, .slice ao4 t3.1.length cap4), (4, .int .i64 t6.2), (5, .int .i64 t15.1), (6, .int .i64 t15.2.1), (7, .int .i64 t17.1), (8, .int .i64 t17.2.1), (10, .int .i64 t19.2.1), (11, .bool t21.1), (12, .int .i64 t23.1), (13, .int .i64 t23.2.1)] (by kernel_rfl) fun a ha => ?_
  rcases Bool.eq_false_or_eq_true (t3.2 == (0 : Int)) with hb26 | hb26
  ·have ha := ha.lit hb26
   have H := ite_t hb26 H
   refine sgh ha 1 [2] [(4, .int .i64 t6.2), (5, .int .i64 t15.1), (6, .int .i64 t15.2.1), (7, .int .i64 t17.1), (8, .int .i64 t17.2.1), (10, .int .i64 t19.2.1), (11, .bool t21.1), (12, .int .i64 t23.1), (13, .int .i64 t23.2.1), (48, .bool true), (49, .slice ao4 t3.1.length cap4)] (by kernel_rfl) fun a ha => ?_
   refine cvs ha rfl (by kernel_rfl) (by kernel_rfl) (by kernel_rfl) rfl rfl rfl (Own.toRSl (M' := []) f4 (Ok.nil _ _) (fun _ _ h => nomatch h)) fun a ha => ?_
   refine sgh ha 3 [2, 3, 0] [(53, .bool ((bstr (b2s t3.1)).toList == (bstr ([0, 1, 1] : List UInt8)).toList)), (4, .int .i64 t6.2), (5, .int .i64 t15.1), (6, .int .i64 t15.2.1), (7, .int .i64 t17.1), (8, .int .i64 t17.2.1), (10, .int .i64 t19.2.1), (11, .bool t21.1), (12, .int .i64 t23.1), (13, .int .i64 t23.2.1)] (by kernel_rfl) fun a ha => ?_
   rcases Bool.eq_false_or_eq_true ((bstr (b2s t3.1)).toList == (bstr ([0, 1, 1] : List UInt8)).toList) with hb27 | hb27
   ·have ha := ha.lit hb27
    have H := ite_t hb27 H
    refine sgh ha 4 [2, 2, 3, 0] [(57, .bool (t6.2 == (0 : Int))), (5, .int .i64 t15.1), (6, .int .i64 t15.2.1), (7, .int .i64 t17.1), (8, .int .i64 t17.2.1), (10, .int .i64 t19.2.1), (11, .bool t21.1), (12, .int .i64 t23.1), (13, .int .i64 t23.2.1)] (by kernel_rfl) fun a ha => ?_
    rcases Bool.eq_false_or_eq_true (t6.2 == (0 : Int)) with hb28 | hb28
    ·have ha := ha.lit hb28
     have H := ite_t hb28 H
     refine sgh ha 4 [2, 2, 3, 0] [(61, .bool (t15.2.1 == (0 : Int))), (5, .int .i64 t15.1), (7, .int .i64 t17.1), (8, .int .i64 t17.2.1), (10, .int .i64 t19.2.1), (11, .bool t21.1), (12, .int .i64 t23.1), (13, .int .i64 t23.2.1)] (by kernel_rfl) fun a ha => ?_
     rcases Bool.eq_false_or_eq_true (t15.2.1 == (0 : Int)) with hb29 | hb29
     ·have ha := ha.lit hb29
      have H := ite_t hb29 H
      refine sgh ha 4 [2, 2, 3, 0] [(65, .bool (t15.1 == (16 : Int))), (7, .int .i64 t17.1), (8, .int .i64 t17.2.1), (10, .int .i64 t19.2.1), (11, .bool t21.1), (12, .int .i64 t23.1), (13, .int .i64 t23.2.1)] (by kernel_rfl) fun a ha => ?_
      rcases Bool.eq_false_or_eq_true (t15.1 == (16 : Int)) with hb30 | hb30
      ·have ha := ha.lit hb30
       have H := ite_t hb30 H
       refine sgh ha 4 [2, 2, 3, 0] [(69, .bool (t17.2.1 == (0 : Int))), (7, .int .i64 t17.1), (10, .int .i64 t19.2.1), (11, .bool t21.1), (12, .int .i64 t23.1), (13, .int .i64 t23.2.1)] (by kernel_rfl) fun a ha => ?_
       rcases Bool.eq_false_or_eq_true (t17.2.1 == (0 : Int)) with hb31 | hb31
       ·have ha := ha.lit hb31
        have H := ite_t hb31 H
        refine sgh ha 4 [2, 2, 3, 0] [(73, .bool (t17.1 == (17 : Int))), (10, .int .i64 t19.2.1), (11, .bool t21.1), (12, .int .i64 t23.1), (13, .int .i64 t23.2.1)] (by kernel_rfl) fun a ha => ?_
        rcases Bool.eq_false_or_eq_true (t17.1 == (17 : Int)) with hb32 | hb32
        ·have ha := ha.lit hb32
         have H := ite_t hb32 H
         refine sgh ha 4 [2, 2, 3, 0] [(77, .bool (t19.2.1 == (6 : Int))), (11, .bool t21.1), (12, .int .i64 t23.1), (13, .int .i64 t23.2.1)] (by kernel_rfl) fun a ha => ?_
         rcases Bool.eq_false_or_eq_true (t19.2.1 == (6 : Int)) with hb33 | hb33
         ·have ha := ha.lit hb33
          have H := ite_t hb33 H
          refine sgh ha 3 [2, 3, 0] [(80, .bool t21.1), (12, .int .i64 t23.1), (13, .int .i64 t23.2.1)] (by kernel_rfl) fun a ha => ?_
          rcases Bool.eq_false_or_eq_true (t21.1) with hb34 | hb34
          ·have ha := ha.lit hb34
           have H := ite_t hb34 H
           refine sgh ha 4 [2, 2, 3, 0] [(84, .bool (t23.2.1 == (0 : Int))), (12, .int .i64 t23.1)] (by kernel_rfl) fun a ha => ?_
           rcases Bool.eq_false_or_eq_true (t23.2.1 == (0 : Int)) with hb35 | hb35
           ·have ha := ha.lit hb35
            have H := ite_t hb35 H
            refine sgh ha 4 [2, 2, 3, 0] [(0, .bool (t23.1 == (16 : Int)))] (by kernel_rfl) fun a ha => ?_
            obtain rfl := Option.some.inj H
            have hM : MS (M) w23 := (fun x h => hM.chg (Chg.refl [] _) x (mr (mr (h))))
            have hC := hC.trans (Chg.refl [] _) (Ok.nil _ _)
            exact J25 _ _ (ha.sel (by kernel_rfl)) hC hM
           ·have ha := ha.lit hb35
            have H := ite_f hb35 H
            refine sgh ha 4 [1, 1, 4, 0] [(0, .bool false)] (by kernel_rfl) fun a ha => ?_
            obtain rfl := Option.some.inj H
            have hM : MS (M) w23 := (fun x h => hM.chg (Chg.refl [] _) x (mr (mr (h))))
            have hC := hC.trans (Chg.refl [] _) (Ok.nil _ _)
            exact J25 _ _ (ha.sel (by kernel_rfl)) hC hM
          ·have ha := ha.lit hb34
           have H := ite_f hb34 H
           refine sgh ha 8 [1, 1, 4, 0, 1, 1, 4, 0] [(0, .bool false)] (by kernel_rfl) fun a ha => ?_
           obtain rfl := Option.some.inj H
           have hM : MS (M) w23 := (fun x h => hM.chg (Chg.refl [] _) x (mr (mr (h))))
           have hC := hC.trans (Chg.refl [] _) (Ok.nil _ _)
           exact J25 _ _ (ha.sel (by kernel_rfl)) hC hM
         ·have ha := ha.lit hb33
          have H := ite_f hb33 H
          refine sgh ha 11 [1, 4, 0, 1, 1, 4, 0, 1, 1, 4, 0] [(0, .bool false)] (by kernel_rfl) fun a ha => ?_
          obtain rfl := Option.some.inj H
          have hM : MS (M) w23 := (fun x h => hM.chg (Chg.refl [] _) x (mr (mr (h))))
          have hC := hC.trans (Chg.refl [] _) (Ok.nil _ _)
          exact J25 _ _ (ha.sel (by kernel_rfl)) hC hM
        ·have ha := ha.lit hb32
         have H := ite_f hb32 H
         refine sgh ha 15 [1, 1, 4, 0, 1, 4, 0, 1, 1, 4, 0, 1, 1, 4, 0] [(0, .bool false)] (by kernel_rfl) fun a ha => ?_
         obtain rfl := Option.some.inj H
         have hM : MS (M) w23 := (fun x h => hM.chg (Chg.refl [] _) x (mr (mr (h))))
         have hC := hC.trans (Chg.refl [] _) (Ok.nil _ _)
         exact J25 _ _ (ha.sel (by kernel_rfl)) hC hM
       ·have ha := ha.lit hb31
        have H := ite_f hb31 H
        refine sgh ha 19 [1, 1, 4, 0, 1, 1, 4, 0, 1, 4, 0, 1, 1, 4, 0, 1, 1, 4, 0] [(0, .bool false)] (by kernel_rfl) fun a ha => ?_
        obtain rfl := Option.some.inj H
        have hM : MS (M) w23 := (fun x h => hM.chg (Chg.refl [] _) x (mr (mr (h))))
        have hC := hC.trans (Chg.refl [] _) (Ok.nil _ _)
        exact J25 _ _ (ha.sel (by kernel_rfl)) hC hM
      ·have ha := ha.lit hb30
       have H := ite_f hb30 H
       refine sgh ha 23 [1, 1, 4, 0, 1, 1, 4, 0, 1, 1, 4, 0, 1, 4, 0, 1, 1, 4, 0, 1, 1, 4, 0] [(0, .bool false)] (by kernel_rfl) fun a ha => ?_
       obtain rfl := Option.some.inj H
       have hM : MS (M) w23 := (fun x h => hM.chg (Chg.refl [] _) x (mr (mr (h))))
       have hC := hC.trans (Chg.refl [] _) (Ok.nil _ _)
       exact J25 _ _ (ha.sel (by kernel_rfl)) hC hM
     ·have ha := ha.lit hb29
      have H := ite_f hb29 H
      refine sgh ha 27 [1, 1, 4, 0, 1, 1, 4, 0, 1, 1, 4, 0, 1, 1, 4, 0, 1, 4, 0, 1, 1, 4, 0, 1, 1, 4, 0] [(0, .bool false)] (by kernel_rfl) fun a ha => ?_
      obtain rfl := Option.some.inj H
      have hM : MS (M) w23 := (fun x h => hM.chg (Chg.refl [] _) x (mr (mr (h))))
      have hC := hC.trans (Chg.refl [] _) (Ok.nil _ _)
      exact J25 _ _ (ha.sel (by kernel_rfl)) hC hM
    ·have ha := ha.lit hb28
     have H := ite_f hb28 H
     refine sgh ha 31 [1, 1, 4, 0, 1, 1, 4, 0, 1, 1, 4, 0, 1, 1, 4, 0, 1, 1, 4, 0, 1, 4, 0, 1, 1, 4, 0, 1, 1, 4, 0] [(0, .bool false)] (by kernel_rfl) fun a ha => ?_
     obtain rfl := Option.some.inj H
     have hM : MS (M) w23 := (fun x h => hM.chg (Chg.refl [] _) x (mr (mr (h))))
     have hC := hC.trans (Chg.refl [] _) (Ok.nil _ _)
     exact J25 _ _ (ha.sel (by kernel_rfl)) hC hM
   ·have ha := ha.lit hb27
    have H := ite_f hb27 H
    refine sgh ha 35 [1, 1, 4, 0, 1, 1, 4, 0, 1, 1, 4, 0, 1, 1, 4, 0, 1, 1, 4, 0, 1, 1, 4, 0, 1, 4, 0, 1, 1, 4, 0, 1, 1, 4, 0] [(0, .bool false)] (by kernel_rfl) fun a ha => ?_
    obtain rfl := Option.some.inj H
    have hM : MS (M) w23 := (fun x h => hM.chg (Chg.refl [] _) x (mr (mr (h))))
    have hC := hC.trans (Chg.refl [] _) (Ok.nil _ _)
    exact J25 _ _ (ha.sel (by kernel_rfl)) hC hM
  ·have ha := ha.lit hb26
   have H := ite_f hb26 H
   refine sgh ha 40 [1, 1, 1, 4, 0, 1, 1, 4, 0, 1, 1, 4, 0, 1, 1, 4, 0, 1, 1, 4, 0, 1, 1, 4, 0, 1, 1, 4, 0, 1, 4, 0, 1, 1, 4, 0, 1, 1, 4, 0] [(0, .bool false)] (by kernel_rfl) fun a ha => ?_
   obtain rfl := Option.some.inj H
   have hM : MS (M) w23 := (fun x h => hM.chg (Chg.refl [] _) x (mr (mr (h))))
   have hC := hC.trans (Chg.refl [] _) (Ok.nil _ _)
   exact J25 _ _ (ha.sel (by kernel_rfl)) hC hM
def vineryref05_Pool_at.l0 (a0 : S_vineryref05_Pool) (a1 : List UInt8) : Nat → Int → Option ((Int) ⊕ (Unit))
  | 0, _ => none
  | kk + 1, x6 => (if (decide (x6 < (a0.l.length : Int))) = true then ((if 0 ≤ x6 ∧ x6 < (a0.l.length : Int) then (if ((rd a0.l x6).is) = true then (if 0 ≤ x6 ∧ x6 < (a0.l.length : Int) then some ((bstr ((rd a0.l x6).who)).toList == (bstr a1).toList : Bool) else none) else some (false : Bool)) else none)).bind fun s13 => (if s13 = true then some (.inl ((x6 : Int))) else vineryref05_Pool_at.l0 a0 a1 kk (IntKind.i64.wrap (x6 + (1 : Int)))) else some (.inr (() : Unit)))
def vineryref05_Pool_at.f (k : Nat) (a0 : S_vineryref05_Pool) (a1 : List UInt8) : Option (Int) := (vineryref05_Pool_at.l0 a0 a1 k (0 : Int)).bind fun s5 => match s5 with | .inl r => some r | .inr s5' => some (((-1 : Int) : Int))
set_option maxRecDepth 100000 in
theorem vineryref05_Pool_at.walk (w : World) (M : List Nat) (hM : MS M w) (gp0 : Nat) (a0 : S_vineryref05_Pool) (ao1 : Option Addr) (cap1 : Nat) (f1 : RSl rS_vineryref05_slot 63 w M ao1 cap1 a0.l) (hBgp0 : Box w gp0 (cS_vineryref05_Pool a0 ao1 cap1)) (hg_gp0 : gp0 ∈ M) (a1 : List UInt8) (k : Nat) (r : Int) (H : vineryref05_Pool_at.f k a0 a1 = some r) :
    To Try.prog 30 [.pointer (some ⟨gp0, 0, none⟩), .string (bstr a1)] w fun v w' => v = .int .i64 r ∧ Chg [] w w' ∧ MS (M) w' := by
 unfold vineryref05_Pool_at.f at H
 refine ent Try.func30 rfl [(0, .pointer (some ⟨gp0, 0, none⟩)), (1, .string (bstr a1))] rfl (by rfl) fun a ha => ?_
 have hC : Chg [] w w := Chg.refl _ _
 refine wp_seq_k fun K2 hK2 => ?_
 refine wp_region_lit ?_
 refine seg ha 1 [(0, .pointer (some ⟨gp0, 0, none⟩)), (1, .string (bstr a1))] (by kernel_rfl) fun a ha => ?_
 refine hK2 _ _ ?_; try clear hK2 K2
 refine wp_seq_k fun K3 hK3 => ?_
 refine wp_seq_k fun K4 hK4 => ?_
 refine wp_region_lit ?_
 refine seg ha 1 [(0, .pointer (some ⟨gp0, 0, none⟩)), (1, .string (bstr a1)), (5, .int .i64 (0 : Int))] (by kernel_rfl) fun a ha => ?_
 refine hK4 _ _ ?_; try clear hK4 K4
 refine wp_block ?_
 obtain ⟨s5, H5, H⟩ := bind_some H
 have J5 : ∀ s5' (a : Act) (wx5 : World), s5 = .inr s5' → Has a Try.f30.ntmps [] → (RSl rS_vineryref05_slot 63 wx5 (M) ao1 cap1 a0.l) → (Box wx5 gp0 (cS_vineryref05_Pool a0 ao1 cap1)) → (Chg [] w wx5) → (MS (M) wx5) → K3 a wx5 := by
  intro s5' a wx5 hs ha f1 hBgp0 hC hM
  subst hs
  refine hK3 _ _ ?_; try clear hK3 K3
  refine wp_seq_k fun K7 hK7 => ?_
  refine wp_region_lit ?_
  refine seg ha 1 [(4, .int .i64 (-1 : Int))] (by kernel_rfl) fun a ha => ?_
  refine hK7 _ _ ?_; try clear hK7 K7
  refine wp_ret ?_
  try simp only [Exit.then, Exit.inBlock]
  obtain rfl := Option.some.inj H
  refine rt1 ha rfl rfl ?_
  exact ⟨rfl, hC, hM⟩
 have Hc5 := H
 have H := H5
 refine wp_loop_ghost (fun kk a w5 => ∃ (x6 : Int), vineryref05_Pool_at.l0 a0 a1 kk x6 = some s5 ∧ Has a Try.f30.ntmps [(0, .pointer (some ⟨gp0, 0, none⟩)), (1, .string (bstr a1)), (5, .int .i64 x6)] ∧ (RSl rS_vineryref05_slot 63 w5 (M) ao1 cap1 a0.l) ∧ (Box w5 gp0 (cS_vineryref05_Pool a0 ao1 cap1)) ∧ (Chg [] w w5) ∧ (MS (M) w5)) k ?_ ?_
 ·skip
  exact ⟨(0 : Int), H, (ha.sel (by kernel_rfl)), f1, hBgp0, hC, hM⟩
 ·rintro kk a w5 ⟨x6, H, ha, f1, hBgp0, hC, hM⟩
  obtain _ | kk := kk
  ·exact nomatch (show none = some _ from H)
  rw [vineryref05_Pool_at.l0] at H
  refine wp_seq_k fun K8 hK8 => ?_
  refine wp_seq_k fun K9 hK9 => ?_
  refine wp_region_lit ?_
  refine seg ha 4 [(0, .pointer (some ⟨gp0, 0, none⟩)), (1, .string (bstr a1)), (5, .int .i64 x6), (6, .int .i64 x6), (9, .pointer (some ⟨gp0, 2, none⟩))] (by kernel_rfl) fun a ha => ?_
  refine ld (v := .slice ao1 a0.l.length cap1) ha rfl (by kernel_rfl) rfl rfl rfl (hBgp0.cell' (o := 2) rfl (by kernel_rfl)) fun a ha => ?_
  refine seg ha 2 [(0, .pointer (some ⟨gp0, 0, none⟩)), (1, .string (bstr a1)), (5, .int .i64 x6), (12, .bool (decide (x6 < (a0.l.length : Int))))] (by kernel_rfl) fun a ha => ?_
  refine hK9 _ _ ?_; try clear hK9 K9
  refine cnd ha rfl (fun hc10 => ?_) (fun hc10 => ?_)
  ·have H := ite_t hc10 H
   refine wp_skip ?_
   refine hK8 _ _ ?_; try clear hK8 K8
   refine wp_seq_k fun K11 hK11 => ?_
   refine wp_block ?_
   refine wp_seq_k fun K12 hK12 => ?_
   refine wp_region_lit ?_
   obtain ⟨s13, H13, H⟩ := bind_some H
   have J13 : ∀ (a : Act) (w13 : World), Has a Try.f30.ntmps [(0, .pointer (some ⟨gp0, 0, none⟩)), (1, .string (bstr a1)), (5, .int .i64 x6), (34, .bool s13)] → (RSl rS_vineryref05_slot 63 w13 (M) ao1 cap1 a0.l) → (Box w13 gp0 (cS_vineryref05_Pool a0 ao1 cap1)) → (Chg [] w w13) → (MS (M) w13) → K12 a w13 := by
    intro a w13 ha f1 hBgp0 hC hM
    refine hK12 _ _ ?_; try clear hK12 K12
    refine cnd ha rfl (fun hc14 => ?_) (fun hc14 => ?_)
    ·have H := ite_t hc14 H
     refine wp_seq_k fun K15 hK15 => ?_
     refine wp_region_lit ?_
     refine seg ha 2 [(4, .int .i64 x6)] (by kernel_rfl) fun a ha => ?_
     refine hK15 _ _ ?_; try clear hK15 K15
     refine wp_ret ?_
     try simp only [Exit.then, Exit.inBlock]
     obtain rfl := Option.some.inj H
     have H := (show some _ = some _ from Hc5)
     obtain rfl := Option.some.inj H
     refine rt1 ha rfl rfl ?_
     exact ⟨rfl, hC, hM⟩
    ·have H := ite_f hc14 H
     refine wp_skip ?_
     refine hK11 _ _ ?_; try clear hK11 K11
     refine wp_region_lit ?_
     refine seg ha 3 [(0, .pointer (some ⟨gp0, 0, none⟩)), (1, .string (bstr a1)), (5, .int .i64 (IntKind.i64.wrap (x6 + (1 : Int))))] (by kernel_rfl) fun a ha => ?_
     exact ⟨kk, Nat.lt_succ_self _, ⟨IntKind.i64.wrap (x6 + (1 : Int)), H, (ha.sel (by kernel_rfl)), f1, hBgp0, hC, hM⟩⟩
   have H := H13
   refine seg ha 3 [(0, .pointer (some ⟨gp0, 0, none⟩)), (1, .string (bstr a1)), (5, .int .i64 x6), (17, .pointer (some ⟨gp0, 2, none⟩))] (by kernel_rfl) fun a ha => ?_
   refine ld (v := .slice ao1 a0.l.length cap1) ha rfl (by kernel_rfl) rfl rfl rfl (hBgp0.cell' (o := 2) rfl (by kernel_rfl)) fun a ha => ?_
   refine seg ha 1 [(0, .pointer (some ⟨gp0, 0, none⟩)), (1, .string (bstr a1)), (5, .int .i64 x6), (18, .slice ao1 a0.l.length cap1), (19, .int .i64 x6)] (by kernel_rfl) fun a ha => ?_
   obtain ⟨⟨hx16, hx16'⟩, H⟩ := ite_some H
   refine ix (r := rS_vineryref05_slot) ha (by kernel_rfl) (by kernel_rfl) rfl rfl rfl rfl rfl f1 hx16 hx16' fun a ge17 oe18 cs19 hn22 hR20 hE21 ha => ?_
   rw [rd_get] at hR20
   obtain rfl := rS_vineryref05_slot.open hR20
   refine seg ha 1 [(0, .pointer (some ⟨gp0, 0, none⟩)), (1, .string (bstr a1)), (5, .int .i64 x6), (21, .pointer (some ⟨ge17, oe18, none⟩))] (by kernel_rfl) fun a ha => ?_
   refine ld ha rfl (by kernel_rfl) rfl rfl rfl (hE21 0 (.bool ((rd a0.l x6).is)) (by kernel_rfl)) fun a ha => ?_
   refine seg ha 1 [(23, .bool ((rd a0.l x6).is)), (0, .pointer (some ⟨gp0, 0, none⟩)), (1, .string (bstr a1)), (5, .int .i64 x6)] (by kernel_rfl) fun a ha => ?_
   rcases Bool.eq_false_or_eq_true ((rd a0.l x6).is) with hb23 | hb23
   ·have ha := ha.lit hb23
    have H := ite_t hb23 H
    refine sgh ha 3 [2, 2, 2] [(0, .pointer (some ⟨gp0, 0, none⟩)), (1, .string (bstr a1)), (5, .int .i64 x6), (23, .bool true), (26, .pointer (some ⟨gp0, 2, none⟩))] (by kernel_rfl) fun a ha => ?_
    refine ld (v := .slice ao1 a0.l.length cap1) ha rfl (by kernel_rfl) rfl rfl rfl (hBgp0.cell' (o := 2) rfl (by kernel_rfl)) fun a ha => ?_
    refine sgh ha 1 [2] [(0, .pointer (some ⟨gp0, 0, none⟩)), (1, .string (bstr a1)), (5, .int .i64 x6), (23, .bool true), (27, .slice ao1 a0.l.length cap1), (28, .int .i64 x6)] (by kernel_rfl) fun a ha => ?_
    obtain ⟨⟨hx24, hx24'⟩, H⟩ := ite_some H
    refine ix (r := rS_vineryref05_slot) ha (by kernel_rfl) (by kernel_rfl) rfl rfl rfl rfl rfl f1 hx24 hx24' fun a ge25 oe26 cs27 hn30 hR28 hE29 ha => ?_
    rw [rd_get] at hR28
    obtain rfl := rS_vineryref05_slot.open hR28
    refine sgh ha 1 [2] [(0, .pointer (some ⟨gp0, 0, none⟩)), (1, .string (bstr a1)), (5, .int .i64 x6), (23, .bool true), (30, .pointer (some ⟨ge25, oe26 + 1, none⟩))] (by kernel_rfl) fun a ha => ?_
    refine ld ha rfl (by kernel_rfl) rfl rfl rfl (hE29 1 (.string (bstr ((rd a0.l x6).who))) (by kernel_rfl)) fun a ha => ?_
    refine sgh ha 3 [2, 2, 3] [(0, .pointer (some ⟨gp0, 0, none⟩)), (1, .string (bstr a1)), (5, .int .i64 x6), (34, .bool ((bstr ((rd a0.l x6).who)).toList == (bstr a1).toList))] (by kernel_rfl) fun a ha => ?_
    obtain rfl := Option.some.inj H
    exact J13 _ _ (ha.sel (by kernel_rfl)) f1 hBgp0 hC hM
   ·have ha := ha.lit hb23
    have H := ite_f hb23 H
    refine sgh ha 11 [1, 1, 1, 1, 1, 1, 1, 1, 1, 1, 4] [(0, .pointer (some ⟨gp0, 0, none⟩)), (1, .string (bstr a1)), (5, .int .i64 x6), (34, .bool false)] (by kernel_rfl) fun a ha => ?_
    obtain rfl := Option.some.inj H
    exact J13 _ _ (ha.sel (by kernel_rfl)) f1 hBgp0 hC hM
  ·have H := ite_f hc10 H
   refine wp_exit ?_
   simp only [Exit.then, Exit.inBlock, ↓reduceIte, Nat.reduceEqDiff]
   obtain rfl := Option.some.inj H
   exact J5 _ _ _ rfl (ha.sel (by kernel_rfl)) f1 hBgp0 hC hM
def vineryref05_Pool_Of.f (k : Nat) (a0 : S_vineryref05_Pool) (a1 : List UInt8) : Option (Int × Bool) := (vineryref05_Pool_at.f k a0 a1).bind fun t4 => (if (decide (t4 < (0 : Int))) = true then some (((0 : Int) : Int), (false : Bool)) else some ((IntKind.i64.wrap (a0.first + t4) : Int), (true : Bool)))
set_option maxRecDepth 100000 in
theorem vineryref05_Pool_Of.walk (w : World) (M : List Nat) (hM : MS M w) (gp0 : Nat) (a0 : S_vineryref05_Pool) (ao1 : Option Addr) (cap1 : Nat) (f1 : RSl rS_vineryref05_slot 63 w M ao1 cap1 a0.l) (hBgp0 : Box w gp0 (cS_vineryref05_Pool a0 ao1 cap1)) (hg_gp0 : gp0 ∈ M) (a1 : List UInt8) (k : Nat) (r : Int × Bool) (H : vineryref05_Pool_Of.f k a0 a1 = some r) :
    To Try.prog 18 [.pointer (some ⟨gp0, 0, none⟩), .string (bstr a1)] w fun v w' => v = .tuple #[.int .i64 r.1, .bool r.2] ∧ Chg [] w w' ∧ MS (M) w' := by
 unfold vineryref05_Pool_Of.f at H
 refine ent Try.func18 rfl [(0, .pointer (some ⟨gp0, 0, none⟩)), (1, .string (bstr a1))] rfl (by rfl) fun a ha => ?_
 have hC : Chg [] w w := Chg.refl _ _
 refine wp_seq_k fun K2 hK2 => ?_
 refine wp_region_lit ?_
 refine seg ha 2 [(0, .pointer (some ⟨gp0, 0, none⟩)), (1, .string (bstr a1))] (by kernel_rfl) fun a ha => ?_
 refine hK2 _ _ ?_; try clear hK2 K2
 refine wp_seq_k fun K3 hK3 => ?_
 refine wp_region_lit ?_
 refine seg ha 2 [(0, .pointer (some ⟨gp0, 0, none⟩)), (7, .pointer (some ⟨gp0, 0, none⟩)), (8, .string (bstr a1))] (by kernel_rfl) fun a ha => ?_
 obtain ⟨t4, H4, H⟩ := bind_some H
 refine cl ha (by rfl) (by kernel_rfl) (by rfl) (by rfl) (by rfl) (vineryref05_Pool_at.walk w _ hM gp0 a0 ao1 cap1 f1 hBgp0 (hg_gp0) a1 k _ H4) ?_
 rintro _ w4 ⟨rfl, hc4, hMn⟩ a ha
 have o1 : Ok [] (M) w.heap.size := Ok.nil _ _
 have o2 : Ok (M) (M) w.heap.size := (Ok.refl _ _)
 have f1 := f1.chg hc4 o1 o2
 have hBgp0 := hBgp0.chg hc4 (fun h => nomatch h)
 have hM : MS (M) w4 := (hM.chg hc4)
 have hC := hC.trans hc4 (Ok.nil _ _)
 refine seg ha 1 [(0, .pointer (some ⟨gp0, 0, none⟩)), (6, .int .i64 t4)] (by kernel_rfl) fun a ha => ?_
 refine hK3 _ _ ?_; try clear hK3 K3
 refine wp_seq_k fun K5 hK5 => ?_
 refine wp_seq_k fun K6 hK6 => ?_
 refine wp_region_lit ?_
 refine seg ha 2 [(0, .pointer (some ⟨gp0, 0, none⟩)), (6, .int .i64 t4), (11, .bool (decide (t4 < (0 : Int))))] (by kernel_rfl) fun a ha => ?_
 refine hK6 _ _ ?_; try clear hK6 K6
 refine cnd ha rfl (fun hc7 => ?_) (fun hc7 => ?_)
 ·have H := ite_t hc7 H
  refine wp_seq_k fun K8 hK8 => ?_
  refine wp_region_lit ?_
  refine seg ha 2 [(4, .int .i64 (0 : Int)), (5, .bool false)] (by kernel_rfl) fun a ha => ?_
  refine hK8 _ _ ?_; try clear hK8 K8
  refine wp_ret ?_
  try simp only [Exit.then, Exit.inBlock]
  obtain rfl := Option.some.inj H
  refine rt2 ha rfl rfl rfl ?_
  exact ⟨rfl, hC, hM⟩
 ·have H := ite_f hc7 H
  refine wp_skip ?_
  refine hK5 _ _ ?_; try clear hK5 K5
  refine wp_seq_k fun K9 hK9 => ?_
  refine wp_region_lit ?_
  refine seg ha 3 [(6, .int .i64 t4), (14, .pointer (some ⟨gp0, 0, none⟩))] (by kernel_rfl) fun a ha => ?_
  refine ld (v := .int .i64 a0.first) ha rfl (by kernel_rfl) rfl rfl rfl (hBgp0.cell' (o := 0) rfl (by kernel_rfl)) fun a ha => ?_
  refine seg ha 4 [(4, .int .i64 (IntKind.i64.wrap (a0.first + t4))), (5, .bool true)] (by kernel_rfl) fun a ha => ?_
  refine hK9 _ _ ?_; try clear hK9 K9
  refine wp_ret ?_
  try simp only [Exit.then, Exit.inBlock]
  obtain rfl := Option.some.inj H
  refine rt2 ha rfl rfl rfl ?_
  exact ⟨rfl, hC, hM⟩
def vineryref05_Pool_Owner.f (a0 : S_vineryref05_Pool) (a1 : Int) : Option (List UInt8 × Bool) := ((if (decide (a1 < a0.first)) = true then some (true : Bool) else (if (decide ((IntKind.i64.wrap (a1 - a0.first)) ≥ (a0.l.length : Int))) = true then some (true : Bool) else (if 0 ≤ (IntKind.i64.wrap (a1 - a0.first)) ∧ (IntKind.i64.wrap (a1 - a0.first)) < (a0.l.length : Int) then some (!((rd a0.l (IntKind.i64.wrap (a1 - a0.first))).is) : Bool) else none)))).bind fun s5 => (if s5 = true then some ((([] : List UInt8) : List UInt8), (false : Bool)) else (if 0 ≤ (IntKind.i64.wrap (a1 - a0.first)) ∧ (IntKind.i64.wrap (a1 - a0.first)) < (a0.l.length : Int) then some (((rd a0.l (IntKind.i64.wrap (a1 - a0.first))).who : List UInt8), (true : Bool)) else none))
set_option maxRecDepth 100000 in
theorem vineryref05_Pool_Owner.walk (w : World) (M : List Nat) (hM : MS M w) (gp0 : Nat) (a0 : S_vineryref05_Pool) (ao1 : Option Addr) (cap1 : Nat) (f1 : RSl rS_vineryref05_slot 63 w M ao1 cap1 a0.l) (hBgp0 : Box w gp0 (cS_vineryref05_Pool a0 ao1 cap1)) (hg_gp0 : gp0 ∈ M) (a1 : Int) (r : List UInt8 × Bool) (H : vineryref05_Pool_Owner.f a0 a1 = some r) :
    To Try.prog 20 [.pointer (some ⟨gp0, 0, none⟩), .int .i64 a1] w fun v w' => v = .tuple #[.string (bstr r.1), .bool r.2] ∧ Chg [] w w' ∧ MS (M) w' := by
 unfold vineryref05_Pool_Owner.f at H
 refine ent Try.func20 rfl [(0, .pointer (some ⟨gp0, 0, none⟩)), (1, .int .i64 a1)] rfl (by rfl) fun a ha => ?_
 have hC : Chg [] w w := Chg.refl _ _
 refine wp_seq_k fun K2 hK2 => ?_
 refine wp_region_lit ?_
 refine seg ha 2 [(0, .pointer (some ⟨gp0, 0, none⟩)), (1, .int .i64 a1)] (by kernel_rfl) fun a ha => ?_
 refine hK2 _ _ ?_; try clear hK2 K2
 refine wp_seq_k fun K3 hK3 => ?_
 refine wp_seq_k fun K4 hK4 => ?_
 refine drq0 (fun w' => Chg [] w w') (by kernel_rfl) (by kernel_rfl) (fun _ h => h) ?_
 obtain ⟨s5, H5, H⟩ := bind_some H
 have J5 : ∀ (a : Act) (w5 : World), Has a Try.f20.ntmps [(0, .pointer (some ⟨gp0, 0, none⟩)), (1, .int .i64 a1), (41, .bool s5)] → (RSl rS_vineryref05_slot 63 w5 (M) ao1 cap1 a0.l) → (Box w5 gp0 (cS_vineryref05_Pool a0 ao1 cap1)) → (Chg [] w w5) → (MS (M) w5) → K4 a w5 := by
  intro a w5 ha f1 hBgp0 hC hM
  refine hK4 _ _ ?_; try clear hK4 K4
  refine cnd ha rfl (fun hc6 => ?_) (fun hc6 => ?_)
  ·have H := ite_t hc6 H
   refine wp_seq_k fun K7 hK7 => ?_
   refine wp_region_lit ?_
   refine seg ha 2 [(4, .string (bstr ([] : List UInt8))), (5, .bool false)] (by kernel_rfl) fun a ha => ?_
   refine hK7 _ _ ?_; try clear hK7 K7
   refine wp_ret ?_
   try simp only [Exit.then, Exit.inBlock]
   obtain rfl := Option.some.inj H
   refine rt2 ha rfl rfl rfl ?_
   exact ⟨rfl, hC, hM⟩
  ·have H := ite_f hc6 H
   refine wp_skip ?_
   refine hK3 _ _ ?_; try clear hK3 K3
   refine wp_seq_k fun K8 hK8 => ?_
   refine drq0 (fun w' => Chg [] w5 w') (by kernel_rfl) (by kernel_rfl) (fun _ h => h) ?_
   refine qp 0 (.pointer (some ⟨gp0, 0, none⟩)) ha rfl rfl rfl (by kernel_rfl) fun a ha => ?_
   refine qp 0 (.pointer (some ⟨gp0, 0, none⟩)) ha rfl rfl rfl (by kernel_rfl) fun a ha => ?_
   refine qp 0 (.pointer (some ⟨gp0, 2, none⟩)) ha rfl rfl rfl (by kernel_rfl) fun a ha => ?_
   refine qv (v := .slice ao1 a0.l.length cap1) ha rfl rfl rfl (fun w' hs => ld_run ha rfl (by kernel_rfl) ((Box.chg hBgp0 hs (fun h => nomatch h)).cell' (o := 2) rfl (by kernel_rfl))) fun a ha => ?_
   refine qp 0 (.int .i64 a1) ha rfl rfl rfl (by kernel_rfl) fun a ha => ?_
   refine qp 0 (.pointer (some ⟨gp0, 0, none⟩)) ha rfl rfl rfl (by kernel_rfl) fun a ha => ?_
   refine qp 0 (.pointer (some ⟨gp0, 0, none⟩)) ha rfl rfl rfl (by kernel_rfl) fun a ha => ?_
   refine qp 0 (.pointer (some ⟨gp0, 0, none⟩)) ha rfl rfl rfl (by kernel_rfl) fun a ha => ?_
   refine qv (v := .int .i64 a0.first) ha rfl rfl rfl (fun w' hs => ld_run ha rfl (by kernel_rfl) ((Box.chg hBgp0 hs (fun h => nomatch h)).cell' (o := 0) rfl (by kernel_rfl))) fun a ha => ?_
   refine qp 0 (.int .i64 (IntKind.i64.wrap (a1 - a0.first))) ha rfl rfl rfl (by kernel_rfl) fun a ha => ?_
   obtain ⟨⟨hx9, hx9'⟩, H⟩ := ite_some H
   obtain ⟨ge10, oe110, cs12, hx9eq, hn15, hR13, hE14⟩ := RSl.elem f1 (Int.toNat (IntKind.i64.wrap (a1 - a0.first))) (by omega)
   rw [rd_get] at hR13
   obtain rfl := rS_vineryref05_slot.open hR13
   refine qv (v := .pointer (some ⟨ge10, (oe110 + (Int.toNat (IntKind.i64.wrap (a1 - a0.first))) * rS_vineryref05_slot.sz), none⟩)) ha rfl rfl rfl (fun w' hs => ix_run (r := rS_vineryref05_slot) (T := 63) ha (by kernel_rfl) (by kernel_rfl) (by rfl) (by rfl) hx9eq hx9 hx9') fun a ha => ?_
   refine qp 0 (.pointer (some ⟨ge10, (oe110 + (Int.toNat (IntKind.i64.wrap (a1 - a0.first))) * rS_vineryref05_slot.sz) + 1, none⟩)) ha rfl rfl rfl (by kernel_rfl) fun a ha => ?_
   refine qv (v := .string (bstr ((rd a0.l (IntKind.i64.wrap (a1 - a0.first))).who))) ha rfl rfl rfl (fun w' hs => ld_run ha rfl (by kernel_rfl) (hs.keep (hE14 1 (.string (bstr ((rd a0.l (IntKind.i64.wrap (a1 - a0.first))).who))) (by kernel_rfl)))) fun a ha => ?_
   refine qp 0 (.string (bstr ((rd a0.l (IntKind.i64.wrap (a1 - a0.first))).who))) ha rfl rfl rfl (by kernel_rfl) fun a ha => ?_
   refine qp 0 (.bool true) ha rfl rfl rfl (by kernel_rfl) fun a ha => ?_
   refine wpQuiet_nil ?_
   intro w16 hc17
   have o1 : Ok [] (M) w5.heap.size := Ok.nil _ _
   have o2 : Ok (M) (M) w5.heap.size := (Ok.refl _ _)
   have f1 := f1.chg hc17 o1 o2
   have hBgp0 := hBgp0.chg hc17 (fun h => nomatch h)
   have q_hn15 : ge10 ∉ M := fun h => (o2 ge10 h).elim hn15 (fun h => absurd (lt_cell (hE14 0 _ rfl)) (Nat.not_lt.2 h))
   have hE14 : ∀ j v, (cS_vineryref05_slot (rd a0.l (IntKind.i64.wrap (a1 - a0.first))))[j]? = some v → w16.cell? ⟨ge10, (oe110 + (Int.toNat (IntKind.i64.wrap (a1 - a0.first))) * rS_vineryref05_slot.sz) + j, none⟩ = some v := fun j v hv => (cell_keep hc17 o1 hn15 (hE14 j v hv))
   have hn15 := q_hn15
   have hM : MS (M) w16 := (hM.chg hc17)
   have hC := hC.trans hc17 (Ok.nil _ _)
   refine wpl_end ?_
   refine hK8 _ _ ?_; try clear hK8 K8
   refine wp_ret ?_
   try simp only [Exit.then, Exit.inBlock]
   obtain rfl := Option.some.inj H
   refine rt2 ha rfl rfl rfl ?_
   exact ⟨rfl, hC, hM⟩
 have H := H5
 refine qp 0 (.int .i64 a1) ha rfl rfl rfl (by kernel_rfl) fun a ha => ?_
 refine qp 0 (.pointer (some ⟨gp0, 0, none⟩)) ha rfl rfl rfl (by kernel_rfl) fun a ha => ?_
 refine qp 0 (.pointer (some ⟨gp0, 0, none⟩)) ha rfl rfl rfl (by kernel_rfl) fun a ha => ?_
 refine qp 0 (.pointer (some ⟨gp0, 0, none⟩)) ha rfl rfl rfl (by kernel_rfl) fun a ha => ?_
 refine qv (v := .int .i64 a0.first) ha rfl rfl rfl (fun w' hs => ld_run ha rfl (by kernel_rfl) ((Box.chg hBgp0 hs (fun h => nomatch h)).cell' (o := 0) rfl (by kernel_rfl))) fun a ha => ?_
 refine qp 0 (.bool (decide (a1 < a0.first))) ha rfl rfl rfl (by kernel_rfl) fun a ha => ?_
 refine qp 0 (.bool (decide (a1 < a0.first))) ha rfl rfl rfl (by kernel_rfl) fun a ha => ?_
 have ha := ha.sel (env' := [(12, .bool (decide (a1 < a0.first))), (0, .pointer (some ⟨gp0, 0, none⟩)), (1, .int .i64 a1)]) (by kernel_rfl)
 rcases Bool.eq_false_or_eq_true (decide (a1 < a0.first)) with hb18 | hb18
 ·have ha := ha.lit hb18
  have H := ite_t hb18 H
  refine qo ha rfl rfl rfl fun a ha => ?_
  refine qo ha rfl rfl rfl fun a ha => ?_
  refine qo ha rfl rfl rfl fun a ha => ?_
  refine qo ha rfl rfl rfl fun a ha => ?_
  refine qo ha rfl rfl rfl fun a ha => ?_
  refine qo ha rfl rfl rfl fun a ha => ?_
  refine qo ha rfl rfl rfl fun a ha => ?_
  refine qo ha rfl rfl rfl fun a ha => ?_
  refine qo ha rfl rfl rfl fun a ha => ?_
  refine qo ha rfl rfl rfl fun a ha => ?_
  refine qo ha rfl rfl rfl fun a ha => ?_
  refine qo ha rfl rfl rfl fun a ha => ?_
  refine qp 3 (.bool true) ha rfl rfl rfl (by kernel_rfl) fun a ha => ?_
  refine qp 0 (.bool true) ha rfl rfl rfl (by kernel_rfl) fun a ha => ?_
  refine qo ha rfl rfl rfl fun a ha => ?_
  refine qo ha rfl rfl rfl fun a ha => ?_
  refine qo ha rfl rfl rfl fun a ha => ?_
  refine qo ha rfl rfl rfl fun a ha => ?_
  refine qo ha rfl rfl rfl fun a ha => ?_
  refine qo ha rfl rfl rfl fun a ha => ?_
  refine qo ha rfl rfl rfl fun a ha => ?_
  refine qo ha rfl rfl rfl fun a ha => ?_
  refine qo ha rfl rfl rfl fun a ha => ?_
  refine qo ha rfl rfl rfl fun a ha => ?_
  refine qo ha rfl rfl rfl fun a ha => ?_
  refine qo ha rfl rfl rfl fun a ha => ?_
  refine qo ha rfl rfl rfl fun a ha => ?_
  refine qo ha rfl rfl rfl fun a ha => ?_
  refine qp 3 (.bool true) ha rfl rfl rfl (by kernel_rfl) fun a ha => ?_
  refine wpQuiet_nil ?_
  intro w19 hc20
  have o1 : Ok [] (M) w.heap.size := Ok.nil _ _
  have o2 : Ok (M) (M) w.heap.size := (Ok.refl _ _)
  have f1 := f1.chg hc20 o1 o2
  have hBgp0 := hBgp0.chg hc20 (fun h => nomatch h)
  have hM : MS (M) w19 := (hM.chg hc20)
  have hC := hC.trans hc20 (Ok.nil _ _)
  refine wpl_end ?_
  obtain rfl := Option.some.inj H
  exact J5 _ _ (ha.sel (by kernel_rfl)) f1 hBgp0 hC hM
 ·have ha := ha.lit hb18
  have H := ite_f hb18 H
  refine qp 0 (.int .i64 a1) ha rfl rfl rfl (by kernel_rfl) fun a ha => ?_
  refine qp 0 (.pointer (some ⟨gp0, 0, none⟩)) ha rfl rfl rfl (by kernel_rfl) fun a ha => ?_
  refine qp 0 (.pointer (some ⟨gp0, 0, none⟩)) ha rfl rfl rfl (by kernel_rfl) fun a ha => ?_
  refine qp 0 (.pointer (some ⟨gp0, 0, none⟩)) ha rfl rfl rfl (by kernel_rfl) fun a ha => ?_
  refine qv (v := .int .i64 a0.first) ha rfl rfl rfl (fun w' hs => ld_run ha rfl (by kernel_rfl) ((Box.chg hBgp0 hs (fun h => nomatch h)).cell' (o := 0) rfl (by kernel_rfl))) fun a ha => ?_
  refine qp 0 (.int .i64 (IntKind.i64.wrap (a1 - a0.first))) ha rfl rfl rfl (by kernel_rfl) fun a ha => ?_
  refine qp 0 (.pointer (some ⟨gp0, 0, none⟩)) ha rfl rfl rfl (by kernel_rfl) fun a ha => ?_
  refine qp 0 (.pointer (some ⟨gp0, 0, none⟩)) ha rfl rfl rfl (by kernel_rfl) fun a ha => ?_
  refine qp 0 (.pointer (some ⟨gp0, 2, none⟩)) ha rfl rfl rfl (by kernel_rfl) fun a ha => ?_
  refine qv (v := .slice ao1 a0.l.length cap1) ha rfl rfl rfl (fun w' hs => ld_run ha rfl (by kernel_rfl) ((Box.chg hBgp0 hs (fun h => nomatch h)).cell' (o := 2) rfl (by kernel_rfl))) fun a ha => ?_
  refine qp 0 (.int .i64 (a0.l.length : Int)) ha rfl rfl rfl (by kernel_rfl) fun a ha => ?_
  refine qp 0 (.bool (decide ((IntKind.i64.wrap (a1 - a0.first)) ≥ (a0.l.length : Int)))) ha rfl rfl rfl (by kernel_rfl) fun a ha => ?_
  refine qp 4 (.bool (decide ((IntKind.i64.wrap (a1 - a0.first)) ≥ (a0.l.length : Int)))) ha rfl rfl rfl (by kernel_rfl) fun a ha => ?_
  refine qp 0 (.bool (decide ((IntKind.i64.wrap (a1 - a0.first)) ≥ (a0.l.length : Int)))) ha rfl rfl rfl (by kernel_rfl) fun a ha => ?_
  have ha := ha.sel (env' := [(26, .bool (decide ((IntKind.i64.wrap (a1 - a0.first)) ≥ (a0.l.length : Int)))), (0, .pointer (some ⟨gp0, 0, none⟩)), (1, .int .i64 a1)]) (by kernel_rfl)
  rcases Bool.eq_false_or_eq_true (decide ((IntKind.i64.wrap (a1 - a0.first)) ≥ (a0.l.length : Int))) with hb21 | hb21
  ·have ha := ha.lit hb21
   have H := ite_t hb21 H
   refine qo ha rfl rfl rfl fun a ha => ?_
   refine qo ha rfl rfl rfl fun a ha => ?_
   refine qo ha rfl rfl rfl fun a ha => ?_
   refine qo ha rfl rfl rfl fun a ha => ?_
   refine qo ha rfl rfl rfl fun a ha => ?_
   refine qo ha rfl rfl rfl fun a ha => ?_
   refine qo ha rfl rfl rfl fun a ha => ?_
   refine qo ha rfl rfl rfl fun a ha => ?_
   refine qo ha rfl rfl rfl fun a ha => ?_
   refine qo ha rfl rfl rfl fun a ha => ?_
   refine qo ha rfl rfl rfl fun a ha => ?_
   refine qo ha rfl rfl rfl fun a ha => ?_
   refine qo ha rfl rfl rfl fun a ha => ?_
   refine qo ha rfl rfl rfl fun a ha => ?_
   refine qp 3 (.bool true) ha rfl rfl rfl (by kernel_rfl) fun a ha => ?_
   refine wpQuiet_nil ?_
   intro w22 hc23
   have o1 : Ok [] (M) w.heap.size := Ok.nil _ _
   have o2 : Ok (M) (M) w.heap.size := (Ok.refl _ _)
   have f1 := f1.chg hc23 o1 o2
   have hBgp0 := hBgp0.chg hc23 (fun h => nomatch h)
   have hM : MS (M) w22 := (hM.chg hc23)
   have hC := hC.trans hc23 (Ok.nil _ _)
   refine wpl_end ?_
   obtain rfl := Option.some.inj H
   exact J5 _ _ (ha.sel (by kernel_rfl)) f1 hBgp0 hC hM
  ·have ha := ha.lit hb21
   have H := ite_f hb21 H
   refine qp 0 (.pointer (some ⟨gp0, 0, none⟩)) ha rfl rfl rfl (by kernel_rfl) fun a ha => ?_
   refine qp 0 (.pointer (some ⟨gp0, 0, none⟩)) ha rfl rfl rfl (by kernel_rfl) fun a ha => ?_
   refine qp 0 (.pointer (some ⟨gp0, 2, none⟩)) ha rfl rfl rfl (by kernel_rfl) fun a ha => ?_
   refine qv (v := .slice ao1 a0.l.length cap1) ha rfl rfl rfl (fun w' hs => ld_run ha rfl (by kernel_rfl) ((Box.chg hBgp0 hs (fun h => nomatch h)).cell' (o := 2) rfl (by kernel_rfl))) fun a ha => ?_
   refine qp 0 (.int .i64 a1) ha rfl rfl rfl (by kernel_rfl) fun a ha => ?_
   refine qp 0 (.pointer (some ⟨gp0, 0, none⟩)) ha rfl rfl rfl (by kernel_rfl) fun a ha => ?_
   refine qp 0 (.pointer (some ⟨gp0, 0, none⟩)) ha rfl rfl rfl (by kernel_rfl) fun a ha => ?_
   refine qp 0 (.pointer (some ⟨gp0, 0, none⟩)) ha rfl rfl rfl (by kernel_rfl) fun a ha => ?_
   refine qv (v := .int .i64 a0.first) ha rfl rfl rfl (fun w' hs => ld_run ha rfl (by kernel_rfl) ((Box.chg hBgp0 hs (fun h => nomatch h)).cell' (o := 0) rfl (by kernel_rfl))) fun a ha => ?_
   refine qp 0 (.int .i64 (IntKind.i64.wrap (a1 - a0.first))) ha rfl rfl rfl (by kernel_rfl) fun a ha => ?_
   obtain ⟨⟨hx24, hx24'⟩, H⟩ := ite_some H
   obtain ⟨ge25, oe260, cs27, hx24eq, hn30, hR28, hE29⟩ := RSl.elem f1 (Int.toNat (IntKind.i64.wrap (a1 - a0.first))) (by omega)
   rw [rd_get] at hR28
   obtain rfl := rS_vineryref05_slot.open hR28
   refine qv (v := .pointer (some ⟨ge25, (oe260 + (Int.toNat (IntKind.i64.wrap (a1 - a0.first))) * rS_vineryref05_slot.sz), none⟩)) ha rfl rfl rfl (fun w' hs => ix_run (r := rS_vineryref05_slot) (T := 63) ha (by kernel_rfl) (by kernel_rfl) (by rfl) (by rfl) hx24eq hx24 hx24') fun a ha => ?_
   refine qp 0 (.pointer (some ⟨ge25, (oe260 + (Int.toNat (IntKind.i64.wrap (a1 - a0.first))) * rS_vineryref05_slot.sz), none⟩)) ha rfl rfl rfl (by kernel_rfl) fun a ha => ?_
   refine qv (v := .bool ((rd a0.l (IntKind.i64.wrap (a1 - a0.first))).is)) ha rfl rfl rfl (fun w' hs => ld_run ha rfl (by kernel_rfl) (hs.keep (hE29 0 (.bool ((rd a0.l (IntKind.i64.wrap (a1 - a0.first))).is)) (by kernel_rfl)))) fun a ha => ?_
   refine qp 0 (.bool (!((rd a0.l (IntKind.i64.wrap (a1 - a0.first))).is))) ha rfl rfl rfl (by kernel_rfl) fun a ha => ?_
   refine qp 4 (.bool (!((rd a0.l (IntKind.i64.wrap (a1 - a0.first))).is))) ha rfl rfl rfl (by kernel_rfl) fun a ha => ?_
   refine wpQuiet_nil ?_
   intro w31 hc32
   have o1 : Ok [] (M) w.heap.size := Ok.nil _ _
   have o2 : Ok (M) (M) w.heap.size := (Ok.refl _ _)
   have f1 := f1.chg hc32 o1 o2
   have hBgp0 := hBgp0.chg hc32 (fun h => nomatch h)
   have q_hn30 : ge25 ∉ M := fun h => (o2 ge25 h).elim hn30 (fun h => absurd (lt_cell (hE29 0 _ rfl)) (Nat.not_lt.2 h))
   have hE29 : ∀ j v, (cS_vineryref05_slot (rd a0.l (IntKind.i64.wrap (a1 - a0.first))))[j]? = some v → w31.cell? ⟨ge25, (oe260 + (Int.toNat (IntKind.i64.wrap (a1 - a0.first))) * rS_vineryref05_slot.sz) + j, none⟩ = some v := fun j v hv => (cell_keep hc32 o1 hn30 (hE29 j v hv))
   have hn30 := q_hn30
   have hM : MS (M) w31 := (hM.chg hc32)
   have hC := hC.trans hc32 (Ok.nil _ _)
   refine wpl_end ?_
   obtain rfl := Option.some.inj H
   exact J5 _ _ (ha.sel (by kernel_rfl)) f1 hBgp0 hC hM
def vineryref05_Pool_Count.l0 (a0 : S_vineryref05_Pool) : Nat → Int → Int → Option (Int)
  | 0, _, _ => none
  | kk + 1, x7, x8 => (if (decide (x8 < (a0.l.length : Int))) = true then (if 0 ≤ x8 ∧ x8 < (a0.l.length : Int) then (if ((rd a0.l x8).is) = true then vineryref05_Pool_Count.l0 a0 kk (IntKind.i64.wrap (x7 + (1 : Int))) (IntKind.i64.wrap (x8 + (1 : Int))) else vineryref05_Pool_Count.l0 a0 kk x7 (IntKind.i64.wrap (x8 + (1 : Int)))) else none) else some (x7 : Int))
def vineryref05_Pool_Count.f (k : Nat) (a0 : S_vineryref05_Pool) : Option (Int) := (vineryref05_Pool_Count.l0 a0 k (0 : Int) (0 : Int)).bind fun s6 => some ((s6 : Int))
set_option maxRecDepth 100000 in
theorem vineryref05_Pool_Count.walk (w : World) (M : List Nat) (hM : MS M w) (gp0 : Nat) (a0 : S_vineryref05_Pool) (ao1 : Option Addr) (cap1 : Nat) (f1 : RSl rS_vineryref05_slot 63 w M ao1 cap1 a0.l) (hBgp0 : Box w gp0 (cS_vineryref05_Pool a0 ao1 cap1)) (hg_gp0 : gp0 ∈ M) (k : Nat) (r : Int) (H : vineryref05_Pool_Count.f k a0 = some r) :
    To Try.prog 22 [.pointer (some ⟨gp0, 0, none⟩)] w fun v w' => v = .int .i64 r ∧ Chg [] w w' ∧ MS (M) w' := by
 unfold vineryref05_Pool_Count.f at H
 refine ent Try.func22 rfl [(0, .pointer (some ⟨gp0, 0, none⟩))] rfl (by rfl) fun a ha => ?_
 have hC : Chg [] w w := Chg.refl _ _
 refine wp_seq_k fun K2 hK2 => ?_
 refine wp_region_lit ?_
 refine seg ha 1 [(0, .pointer (some ⟨gp0, 0, none⟩))] (by kernel_rfl) fun a ha => ?_
 refine hK2 _ _ ?_; try clear hK2 K2
 refine wp_seq_k fun K3 hK3 => ?_
 refine wp_region_lit ?_
 refine seg ha 1 [(0, .pointer (some ⟨gp0, 0, none⟩)), (3, .int .i64 (0 : Int))] (by kernel_rfl) fun a ha => ?_
 refine hK3 _ _ ?_; try clear hK3 K3
 refine wp_seq_k fun K4 hK4 => ?_
 refine wp_seq_k fun K5 hK5 => ?_
 refine wp_region_lit ?_
 refine seg ha 1 [(0, .pointer (some ⟨gp0, 0, none⟩)), (3, .int .i64 (0 : Int)), (4, .int .i64 (0 : Int))] (by kernel_rfl) fun a ha => ?_
 refine hK5 _ _ ?_; try clear hK5 K5
 refine wp_block ?_
 obtain ⟨s6, H6, H⟩ := bind_some H
 have J6 : ∀ (a : Act) (wx6 : World), Has a Try.f22.ntmps [(3, .int .i64 s6)] → (RSl rS_vineryref05_slot 63 wx6 (M) ao1 cap1 a0.l) → (Box wx6 gp0 (cS_vineryref05_Pool a0 ao1 cap1)) → (Chg [] w wx6) → (MS (M) wx6) → K4 a wx6 := by
  intro a wx6 ha f1 hBgp0 hC hM
  refine hK4 _ _ ?_; try clear hK4 K4
  refine wp_seq_k fun K9 hK9 => ?_
  refine wp_region_lit ?_
  refine seg ha 2 [(2, .int .i64 s6)] (by kernel_rfl) fun a ha => ?_
  refine hK9 _ _ ?_; try clear hK9 K9
  refine wp_ret ?_
  try simp only [Exit.then, Exit.inBlock]
  obtain rfl := Option.some.inj H
  refine rt1 ha rfl rfl ?_
  exact ⟨rfl, hC, hM⟩
 have Hc6 := H
 have H := H6
 refine wp_loop_ghost (fun kk a w6 => ∃ (x7 : Int) (x8 : Int), vineryref05_Pool_Count.l0 a0 kk x7 x8 = some s6 ∧ Has a Try.f22.ntmps [(0, .pointer (some ⟨gp0, 0, none⟩)), (3, .int .i64 x7), (4, .int .i64 x8)] ∧ (RSl rS_vineryref05_slot 63 w6 (M) ao1 cap1 a0.l) ∧ (Box w6 gp0 (cS_vineryref05_Pool a0 ao1 cap1)) ∧ (Chg [] w w6) ∧ (MS (M) w6)) k ?_ ?_
 ·skip
  exact ⟨(0 : Int), (0 : Int), H, (ha.sel (by kernel_rfl)), f1, hBgp0, hC, hM⟩
 ·rintro kk a w6 ⟨x7, x8, H, ha, f1, hBgp0, hC, hM⟩
  obtain _ | kk := kk
  ·exact nomatch (show none = some _ from H)
  rw [vineryref05_Pool_Count.l0] at H
  refine wp_seq_k fun K10 hK10 => ?_
  refine wp_seq_k fun K11 hK11 => ?_
  refine wp_region_lit ?_
  refine seg ha 4 [(0, .pointer (some ⟨gp0, 0, none⟩)), (3, .int .i64 x7), (4, .int .i64 x8), (5, .int .i64 x8), (8, .pointer (some ⟨gp0, 2, none⟩))] (by kernel_rfl) fun a ha => ?_
  refine ld (v := .slice ao1 a0.l.length cap1) ha rfl (by kernel_rfl) rfl rfl rfl (hBgp0.cell' (o := 2) rfl (by kernel_rfl)) fun a ha => ?_
  refine seg ha 2 [(0, .pointer (some ⟨gp0, 0, none⟩)), (3, .int .i64 x7), (4, .int .i64 x8), (11, .bool (decide (x8 < (a0.l.length : Int))))] (by kernel_rfl) fun a ha => ?_
  refine hK11 _ _ ?_; try clear hK11 K11
  refine cnd ha rfl (fun hc12 => ?_) (fun hc12 => ?_)
  ·have H := ite_t hc12 H
   refine wp_skip ?_
   refine hK10 _ _ ?_; try clear hK10 K10
   refine wp_seq_k fun K13 hK13 => ?_
   refine wp_block ?_
   refine wp_seq_k fun K14 hK14 => ?_
   refine wp_region_lit ?_
   refine seg ha 3 [(0, .pointer (some ⟨gp0, 0, none⟩)), (3, .int .i64 x7), (4, .int .i64 x8), (16, .pointer (some ⟨gp0, 2, none⟩))] (by kernel_rfl) fun a ha => ?_
   refine ld (v := .slice ao1 a0.l.length cap1) ha rfl (by kernel_rfl) rfl rfl rfl (hBgp0.cell' (o := 2) rfl (by kernel_rfl)) fun a ha => ?_
   refine seg ha 1 [(0, .pointer (some ⟨gp0, 0, none⟩)), (3, .int .i64 x7), (4, .int .i64 x8), (17, .slice ao1 a0.l.length cap1), (18, .int .i64 x8)] (by kernel_rfl) fun a ha => ?_
   obtain ⟨⟨hx15, hx15'⟩, H⟩ := ite_some H
   refine ix (r := rS_vineryref05_slot) ha (by kernel_rfl) (by kernel_rfl) rfl rfl rfl rfl rfl f1 hx15 hx15' fun a ge16 oe17 cs18 hn21 hR19 hE20 ha => ?_
   rw [rd_get] at hR19
   obtain rfl := rS_vineryref05_slot.open hR19
   refine seg ha 1 [(0, .pointer (some ⟨gp0, 0, none⟩)), (3, .int .i64 x7), (4, .int .i64 x8), (20, .pointer (some ⟨ge16, oe17, none⟩))] (by kernel_rfl) fun a ha => ?_
   refine ld ha rfl (by kernel_rfl) rfl rfl rfl (hE20 0 (.bool ((rd a0.l x8).is)) (by kernel_rfl)) fun a ha => ?_
   refine hK14 _ _ ?_; try clear hK14 K14
   refine cnd ha rfl (fun hc22 => ?_) (fun hc22 => ?_)
   ·have H := ite_t hc22 H
    refine wp_region_lit ?_
    refine seg ha 3 [(0, .pointer (some ⟨gp0, 0, none⟩)), (3, .int .i64 (IntKind.i64.wrap (x7 + (1 : Int)))), (4, .int .i64 x8)] (by kernel_rfl) fun a ha => ?_
    refine hK13 _ _ ?_; try clear hK13 K13
    refine wp_region_lit ?_
    refine seg ha 3 [(0, .pointer (some ⟨gp0, 0, none⟩)), (3, .int .i64 (IntKind.i64.wrap (x7 + (1 : Int)))), (4, .int .i64 (IntKind.i64.wrap (x8 + (1 : Int))))] (by kernel_rfl) fun a ha => ?_
    exact ⟨kk, Nat.lt_succ_self _, ⟨IntKind.i64.wrap (x7 + (1 : Int)), IntKind.i64.wrap (x8 + (1 : Int)), H, (ha.sel (by kernel_rfl)), f1, hBgp0, hC, hM⟩⟩
   ·have H := ite_f hc22 H
    refine wp_skip ?_
    refine hK13 _ _ ?_; try clear hK13 K13
    refine wp_region_lit ?_
    refine seg ha 3 [(0, .pointer (some ⟨gp0, 0, none⟩)), (3, .int .i64 x7), (4, .int .i64 (IntKind.i64.wrap (x8 + (1 : Int))))] (by kernel_rfl) fun a ha => ?_
    exact ⟨kk, Nat.lt_succ_self _, ⟨x7, IntKind.i64.wrap (x8 + (1 : Int)), H, (ha.sel (by kernel_rfl)), f1, hBgp0, hC, hM⟩⟩
  ·have H := ite_f hc12 H
   refine wp_exit ?_
   simp only [Exit.then, Exit.inBlock, ↓reduceIte, Nat.reduceEqDiff]
   obtain rfl := Option.some.inj H
   exact J6 _ _ (ha.sel (by kernel_rfl)) f1 hBgp0 hC hM
theorem rl_slot {w w' : World} {M M' : List Nat} : ∀ {cs : List Value} {xs : List S_vineryref05_slot}, RL rS_vineryref05_slot w M cs xs → RL rS_vineryref05_slot w' M' cs xs
  | _, [], h => h
  | _, x :: _, ⟨c1, c2, e, h1, h2⟩ => ⟨c1, c2, e, by rw [rS_vineryref05_slot.open h1]; exact rS_vineryref05_slot.mk x, rl_slot h2⟩
theorem own_slot {w w' : World} {M M' gs : List Nat} {ao : Option Addr} {cap : Nat} {xs : List S_vineryref05_slot} (h : Own rS_vineryref05_slot 63 w M ao cap xs) (hc : Chg gs w w') (hn : ∀ y ∈ blkL ao, y ∉ gs) (hm : ∀ y ∈ blkL ao, y ∈ M') : Own rS_vineryref05_slot 63 w' M' ao cap xs := by
  rcases h with h | ⟨g, cur, rfl, hg, hb, h1, h2, h3, hl⟩
  · exact .inl h
  · exact .inr ⟨g, cur, rfl, hm g (by simp [blkL]), hc.at hb (hn g (by simp [blkL])), h1, h2, h3, rl_slot hl⟩
def RefAt (w : World) (g : Nat) (ao : Option Addr) (x : S_vineryref05_Pool) : Prop :=
  ∃ cap, g ∉ blkL ao ∧ Box w g (cS_vineryref05_Pool x ao cap) ∧ Own rS_vineryref05_slot 63 w (blkL ao) ao cap x.l
theorem RefAt.chg {w w' : World} {g : Nat} {ao : Option Addr} {x : S_vineryref05_Pool} {gs : List Nat} (h : RefAt w g ao x) (hc : Chg gs w w') (hn : ∀ y ∈ [g] ++ blkL ao, y ∉ gs) : RefAt w' g ao x := by
  obtain ⟨cap, h1, h2, h3⟩ := h
  exact ⟨cap, h1, h2.chg hc (hn g (by simp)), own_slot h3 hc (fun y hy => hn y (mr hy)) (fun _ h => h)⟩
theorem RefAt.rsl {w : World} {g : Nat} {ao : Option Addr} {x : S_vineryref05_Pool} {cap : Nat} (h1 : g ∉ blkL ao) (h3 : Own rS_vineryref05_slot 63 w (blkL ao) ao cap x.l) : RSl rS_vineryref05_slot 63 w [g] ao cap x.l :=
  (own_slot (M' := [g] ++ blkL ao) h3 (Chg.refl [] w) (fun _ _ h => nomatch h) (fun _ h => mr h)).toRSl (fun y hy => .inl (ml hy)) (fun y hy hg => h1 (by simp at hg; rw [← hg]; exact hy))
abbrev Ref_Of.f (k : Nat) (x : S_vineryref05_Pool) (o : List UInt8) : Option (Int × Bool) := vineryref05_Pool_Of.f k x o
theorem Ref_Of.walk (w : World) (M : List Nat) (hM : MS M w) (g : Nat) (ao : Option Addr) (x : S_vineryref05_Pool) (f : RefAt w g ao x) (hL : ∀ y ∈ [g] ++ blkL ao, y ∈ M) (o : List UInt8) (k : Nat) (r : Int × Bool) (H : Ref_Of.f k x o = some r) :
    To Try.prog 18 [.pointer (some ⟨g, 0, none⟩), .string (bstr o)] w fun v w' => v = .tuple #[.int .i64 r.1, .bool r.2] ∧ Chg [] w w' ∧ MS M w' := by
  obtain ⟨cap, h1, h2, h3⟩ := f
  exact (vineryref05_Pool_Of.walk w [g] (MS.cons h2.lt (MS.nil _)) g x ao cap (RefAt.rsl h1 h3) h2 (by simp) o k r H).mono fun v w' ⟨e1, e2, _⟩ => ⟨e1, e2, hM.chg e2⟩
abbrev Ref_Owner.f (x : S_vineryref05_Pool) (n : Int) : Option (List UInt8 × Bool) := vineryref05_Pool_Owner.f x n
theorem Ref_Owner.walk (w : World) (M : List Nat) (hM : MS M w) (g : Nat) (ao : Option Addr) (x : S_vineryref05_Pool) (f : RefAt w g ao x) (hL : ∀ y ∈ [g] ++ blkL ao, y ∈ M) (n : Int) (r : List UInt8 × Bool) (H : Ref_Owner.f x n = some r) :
    To Try.prog 20 [.pointer (some ⟨g, 0, none⟩), .int .i64 n] w fun v w' => v = .tuple #[.string (bstr r.1), .bool r.2] ∧ Chg [] w w' ∧ MS M w' := by
  obtain ⟨cap, h1, h2, h3⟩ := f
  exact (vineryref05_Pool_Owner.walk w [g] (MS.cons h2.lt (MS.nil _)) g x ao cap (RefAt.rsl h1 h3) h2 (by simp) n r H).mono fun v w' ⟨e1, e2, _⟩ => ⟨e1, e2, hM.chg e2⟩
abbrev Ref_Count.f (k : Nat) (x : S_vineryref05_Pool) : Option Int := vineryref05_Pool_Count.f k x
theorem Ref_Count.walk (w : World) (M : List Nat) (hM : MS M w) (g : Nat) (ao : Option Addr) (x : S_vineryref05_Pool) (f : RefAt w g ao x) (hL : ∀ y ∈ [g] ++ blkL ao, y ∈ M) (k : Nat) (r : Int) (H : Ref_Count.f k x = some r) :
    To Try.prog 22 [.pointer (some ⟨g, 0, none⟩)] w fun v w' => v = .int .i64 r ∧ Chg [] w w' ∧ MS M w' := by
  obtain ⟨cap, h1, h2, h3⟩ := f
  exact (vineryref05_Pool_Count.walk w [g] (MS.cons h2.lt (MS.nil _)) g x ao cap (RefAt.rsl h1 h3) h2 (by simp) k r H).mono fun v w' ⟨e1, e2, _⟩ => ⟨e1, e2, hM.chg e2⟩
theorem ref_at (w : World) (g : Nat) (ao : Option Addr) (cap : Nat) (x : S_vineryref05_Pool) (h1 : g ∉ blkL ao) (h2 : Box w g (cS_vineryref05_Pool x ao cap)) (h3 : Own rS_vineryref05_slot 63 w (blkL ao) ao cap x.l) (o : List UInt8) (k : Nat) (r : Int) (H : vineryref05_Pool_at.f k x o = some r) :
    To Try.prog 30 [.pointer (some ⟨g, 0, none⟩), .string (bstr o)] w fun v w' => v = .int .i64 r ∧ Chg [] w w' :=
  (vineryref05_Pool_at.walk w [g] (MS.cons h2.lt (MS.nil _)) g x ao cap (RefAt.rsl h1 h3) h2 (by simp) o k r H).mono fun v w' ⟨e1, e2, _⟩ => ⟨e1, e2⟩
def Ref_New.bad (a b : Int) : Bool := (if (if (if (if decide (a < (16 : Int)) = true then true else decide (b < (1 : Int))) = true then true else decide (a > (1048575 : Int))) = true then true else decide (b > (1048575 : Int))) = true then true else decide (IntKind.i64.wrap (IntKind.i64.wrap (a + b) - (1 : Int)) > (1048575 : Int)))
def Ref_New.f (a b : Int) : Option (Option S_vineryref05_Pool × Int) := if Ref_New.bad a b = true then some (none, 1) else some (some ⟨a, b, []⟩, 0)
theorem Ref_New.walk (w : World) (M : List Nat) (hM : MS M w) (a0 b0 : Int) (r : Option S_vineryref05_Pool × Int) (H : Ref_New.f a0 b0 = some r) :
    To Try.prog 13 [.int .i64 a0, .int .i64 b0] w fun v w' => ∃ po g L, v = .tuple #[.pointer po, .int .i64 r.2] ∧ (r.1 = none → po = none ∧ L = []) ∧ (∀ x, r.1 = some x → po = some ⟨g, 0, none⟩ ∧ L = [g] ++ blkL none ∧ RefAt w' g none x) ∧ (∀ y ∈ L, w.heap.size ≤ y) ∧ Chg [] w w' ∧ MS (L ++ M) w' := by
  unfold Ref_New.f at H
  refine ent Try.func13 rfl [(0, .int .i64 a0), (1, .int .i64 b0)] rfl (by rfl) fun a ha => ?_
  refine wp_seq_k fun K hK => ?_
  refine wp_region_lit ?_
  refine seg ha 2 [(0, .int .i64 a0), (1, .int .i64 b0)] (by kernel_rfl) fun a ha => ?_
  refine hK _ _ ?_; clear hK K
  refine wp_seq_k fun K hK => ?_
  refine wp_seq_k fun K2 hK2 => ?_
  refine wp_region_lit ?_
  refine seg ha 21 [(0, .int .i64 a0), (1, .int .i64 b0), (26, .bool (Ref_New.bad a0 b0))] (by kernel_rfl) fun a ha => ?_
  refine hK2 _ _ ?_; clear hK2 K2
  refine cnd ha rfl (fun hc => ?_) (fun hc => ?_)
  · have H := Option.some.inj (ite_t hc H)
    refine wp_seq_k fun K2 hK2 => ?_
    refine wp_region_lit ?_
    refine seg ha 2 [(4, .pointer none), (5, .int .i64 1)] (by kernel_rfl) fun a ha => ?_
    refine hK2 _ _ ?_; clear hK2 K2
    refine wp_ret ?_
    simp only [Exit.then, Exit.inBlock]
    subst H
    exact rt2 ha rfl rfl rfl ⟨none, 0, [], rfl, fun _ => ⟨rfl, rfl⟩, (fun x h => nomatch h), (fun _ h => nomatch h), Chg.refl _ _, hM⟩
  · have H := Option.some.inj (ite_f hc H)
    refine wp_skip ?_
    refine hK _ _ ?_; clear hK K
    refine wp_seq_k fun K hK => ?_
    refine wp_region_lit ?_
    refine seg ha 2 [(27, .int .i64 a0), (28, .int .i64 b0)] (by kernel_rfl) fun a ha => ?_
    refine opk (v := .agg (cS_vineryref05_Pool ⟨a0, b0, []⟩ none 0).toArray) ha rfl rfl rfl rfl rfl (fun w => by kernel_rfl) fun a ha => ?_
    refine bx (cs := cS_vineryref05_Pool ⟨a0, b0, []⟩ none 0) ha rfl rfl rfl rfl rfl fun a w3 g N3 ha => ?_
    refine seg ha 2 [(4, .pointer (some ⟨g, 0, none⟩)), (5, .int .i64 0)] (by kernel_rfl) fun a ha => ?_
    refine hK _ _ ?_; clear hK K
    refine wp_ret ?_
    subst H
    refine rt2 ha rfl rfl rfl ⟨some ⟨g, 0, none⟩, g, [g], rfl, (fun h => nomatch h), ?_, N3.ge1, N3.chg, ?_⟩
    · rintro x h
      obtain rfl := Option.some.inj h
      exact ⟨rfl, rfl, 0, (fun h => nomatch h), N3.box, Own.nil⟩
    · exact MS.app N3.ms (hM.chg N3.chg)
def Ref_Clear.f (x : S_vineryref05_Pool) : Option S_vineryref05_Pool := some ⟨x.first, x.count, []⟩
theorem Ref_Clear.walk (w : World) (M : List Nat) (hM : MS M w) (g : Nat) (ao : Option Addr) (x : S_vineryref05_Pool) (f : RefAt w g ao x) (hL : ∀ y ∈ [g] ++ blkL ao, y ∈ M) (r : S_vineryref05_Pool) (H : Ref_Clear.f x = some r) :
    To Try.prog 21 [.pointer (some ⟨g, 0, none⟩)] w fun v w' => ∃ ao2, v = .tuple #[] ∧ RefAt w' g ao2 r ∧ Chg ([g] ++ blkL ao) w w' ∧ Ok ([g] ++ blkL ao2) ([g] ++ blkL ao) w.heap.size ∧ MS (([g] ++ blkL ao2) ++ M) w' := by
  unfold Ref_Clear.f at H
  obtain rfl := Option.some.inj H
  obtain ⟨cap, h1, h2, h3⟩ := f
  refine ent Try.func21 rfl [(0, .pointer (some ⟨g, 0, none⟩))] rfl (by rfl) fun a ha => ?_
  refine wp_region_lit ?_
  refine seg ha 3 [(4, .pointer (some ⟨g, 2, none⟩))] (by kernel_rfl) fun a ha => ?_
  refine st ha rfl rfl rfl (by kernel_rfl) rfl rfl h2 (Nat.le_of_ble_eq_true (by kernel_rfl)) fun a w1 ha hb2 hc _ => ?_
  refine wpl_end ?_
  have hB : Box w1 g (cS_vineryref05_Pool ⟨x.first, x.count, []⟩ none 0) := hb2
  exact rt0 ha rfl ⟨none, rfl, ⟨0, (fun h => nomatch h), hB, Own.nil⟩, hc.mono (Ok.one (.inl (by simp))), fun y hy => .inl (ml hy), MS.app (MS.cons hB.lt (MS.nil _)) (hM.chg hc)⟩
def Ref_Free.f (k : Nat) (x : S_vineryref05_Pool) (o : List UInt8) : Option (Bool × S_vineryref05_Pool) :=
  (vineryref05_Pool_at.f k x o).bind fun i => if decide (i < (0 : Int)) = true then some (false, x) else if 0 ≤ i ∧ i < (x.l.length : Int) then some (true, ⟨x.first, x.count, x.l.set i.toNat ⟨false, []⟩⟩) else none
theorem Ref_Free.walk (w : World) (M : List Nat) (hM : MS M w) (g : Nat) (ao : Option Addr) (x : S_vineryref05_Pool) (f : RefAt w g ao x) (hL : ∀ y ∈ [g] ++ blkL ao, y ∈ M) (o : List UInt8) (k : Nat) (r : Bool × S_vineryref05_Pool) (H : Ref_Free.f k x o = some r) :
    To Try.prog 16 [.pointer (some ⟨g, 0, none⟩), .string (bstr o)] w fun v w' => ∃ ao2, v = .bool r.1 ∧ RefAt w' g ao2 r.2 ∧ Chg ([g] ++ blkL ao) w w' ∧ Ok ([g] ++ blkL ao2) ([g] ++ blkL ao) w.heap.size ∧ MS (([g] ++ blkL ao2) ++ M) w' := by
  unfold Ref_Free.f at H
  obtain ⟨i, Hi, H⟩ := bind_some H
  obtain ⟨cap, h1, h2, h3⟩ := f
  refine ent Try.func16 rfl [(0, .pointer (some ⟨g, 0, none⟩)), (1, .string (bstr o))] rfl (by rfl) fun a ha => ?_
  refine wp_seq_k fun K hK => ?_
  refine wp_region_lit ?_
  refine seg ha 1 [(0, .pointer (some ⟨g, 0, none⟩)), (1, .string (bstr o))] (by kernel_rfl) fun a ha => ?_
  refine hK _ _ ?_; clear hK K
  refine wp_seq_k fun K hK => ?_
  refine wp_region_lit ?_
  refine seg ha 2 [(0, .pointer (some ⟨g, 0, none⟩)), (6, .pointer (some ⟨g, 0, none⟩)), (7, .string (bstr o))] (by kernel_rfl) fun a ha => ?_
  refine cl ha (by rfl) (by kernel_rfl) (by rfl) (by rfl) (by rfl) (ref_at w g ao cap x h1 h2 h3 o k i Hi) ?_
  rintro _ w1 ⟨rfl, c1⟩ a ha
  have h2 := h2.chg c1 (fun h => nomatch h)
  have h3 := own_slot (M' := blkL ao) h3 c1 (fun _ _ h => nomatch h) (fun _ h => h)
  have hM := hM.chg c1
  refine seg ha 1 [(0, .pointer (some ⟨g, 0, none⟩)), (5, .int .i64 i)] (by kernel_rfl) fun a ha => ?_
  refine hK _ _ ?_; clear hK K
  refine wp_seq_k fun K hK => ?_
  refine wp_seq_k fun K2 hK2 => ?_
  refine wp_region_lit ?_
  refine seg ha 2 [(0, .pointer (some ⟨g, 0, none⟩)), (5, .int .i64 i), (10, .bool (decide (i < (0 : Int))))] (by kernel_rfl) fun a ha => ?_
  refine hK2 _ _ ?_; clear hK2 K2
  refine cnd ha rfl (fun hc => ?_) (fun hc => ?_)
  · have H := Option.some.inj (ite_t hc H)
    refine wp_seq_k fun K2 hK2 => ?_
    refine wp_region_lit ?_
    refine seg ha 1 [(4, .bool false)] (by kernel_rfl) fun a ha => ?_
    refine hK2 _ _ ?_; clear hK2 K2
    refine wp_ret ?_
    simp only [Exit.then, Exit.inBlock]
    subst H
    exact rt1 ha rfl rfl ⟨ao, rfl, ⟨cap, h1, h2, h3⟩, c1.mono (Ok.nil _ _), Ok.refl _ _, fun y hy => (List.mem_append.1 hy).elim (fun h => hM y (hL y h)) (hM y)⟩
  · have H := ite_f hc H
    obtain ⟨⟨hx, hx'⟩, H⟩ := ite_some H
    have H := Option.some.inj H
    refine wp_skip ?_
    refine hK _ _ ?_; clear hK K
    refine wp_seq_k fun K hK => ?_
    refine wp_region_lit ?_
    refine seg ha 3 [(5, .int .i64 i), (13, .pointer (some ⟨g, 2, none⟩))] (by kernel_rfl) fun a ha => ?_
    refine ld (v := .slice ao x.l.length cap) ha rfl (by kernel_rfl) rfl rfl rfl (h2.cell' (o := 2) rfl (by kernel_rfl)) fun a ha => ?_
    refine seg ha 1 [(14, .slice ao x.l.length cap), (15, .int .i64 i)] (by kernel_rfl) fun a ha => ?_
    refine opk (v := .agg (cS_vineryref05_slot ⟨false, []⟩).toArray) ha rfl rfl rfl rfl rfl (fun w => by kernel_rfl) fun a ha => ?_
    obtain ⟨g1, rfl⟩ : ∃ g1, ao = some ⟨g1, 0, none⟩ := by
      rcases h3 with ⟨_, e, _⟩ | ⟨g1, _, e, _⟩
      · rw [e] at hx'; simp at hx'; omega
      · exact ⟨g1, e⟩
    refine hop (v := .pointer (some ⟨g1, 0 + i.toNat * rS_vineryref05_slot.sz, none⟩)) (w' := w1) ha rfl rfl rfl (ix_run (r := rS_vineryref05_slot) (T := 63) (xs := x.l) (k := .i64) (i := i) ha (by kernel_rfl) (by kernel_rfl) rfl rfl rfl hx hx') fun a ha => ?_
    refine stS (i := i.toNat) (z := (⟨false, []⟩ : S_vineryref05_slot)) (l := cS_vineryref05_slot ⟨false, []⟩) ha rfl (by rw [Nat.zero_add]) rfl (by kernel_rfl) rfl rfl h3 (by omega) rfl (fun _ _ => rS_vineryref05_slot.mk _) fun a w2 ha h3 c2 => ?_
    refine wpl_end ?_
    have hg1 : g ≠ g1 := fun e => h1 (by simp [blkL, e])
    have h2 := h2.chg c2 (by simp [hg1])
    have ha := ha.sel (env' := []) (by kernel_rfl)
    refine hK _ _ ?_; clear hK K
    refine wp_seq_k fun K hK => ?_
    refine wp_region_lit ?_
    refine seg ha 1 [(4, .bool true)] (by kernel_rfl) fun a ha => ?_
    refine hK _ _ ?_; clear hK K
    refine wp_ret ?_
    subst H
    have hl : (x.l.set i.toNat ⟨false, []⟩).length = x.l.length := List.length_set
    have h2 : Box w2 g (cS_vineryref05_Pool ⟨x.first, x.count, x.l.set i.toNat ⟨false, []⟩⟩ (some ⟨g1, 0, none⟩) cap) := by
      unfold cS_vineryref05_Pool
      rw [hl]; exact h2
    have hM := hM.chg c2
    exact rt1 ha rfl rfl ⟨some ⟨g1, 0, none⟩, rfl, ⟨cap, h1, h2, h3⟩, (c1.mono (gs' := [g] ++ blkL (some ⟨g1, 0, none⟩)) (Ok.nil _ _)).trans c2 (Ok.one (.inl (by simp [blkL]))), Ok.refl _ _, fun y hy => (List.mem_append.1 hy).elim (fun h => hM y (hL y h)) (hM y)⟩
def Ref_Take.l0 (x : S_vineryref05_Pool) : Nat → Int → Option Int
  | 0, _ => none
  | kk + 1, i => if decide (i < (x.l.length : Int)) = true then (if 0 ≤ i ∧ i < (x.l.length : Int) then (if (rd x.l i).is = true then Ref_Take.l0 x kk (IntKind.i64.wrap (i + (1 : Int))) else some i) else none) else some i
def Ref_Take.put (x : S_vineryref05_Pool) (l : List S_vineryref05_slot) (j : Int) (o : List UInt8) : Option (Int × Int × S_vineryref05_Pool) :=
  if 0 ≤ j ∧ j < (l.length : Int) then some (IntKind.i64.wrap (x.first + j), 0, ⟨x.first, x.count, l.set j.toNat ⟨true, o⟩⟩) else none
def Ref_Take.f (k : Nat) (x : S_vineryref05_Pool) (o : List UInt8) : Option (Int × Int × S_vineryref05_Pool) :=
  (vineryref05_Pool_at.f k x o).bind fun i => if decide (i ≥ (0 : Int)) = true then some (IntKind.i64.wrap (x.first + i), 0, x) else
  (Ref_Take.l0 x k 0).bind fun j => if (j == x.count) = true then some (0, 6, x) else if (j == (x.l.length : Int)) = true then (if (x.l.length + 1) * 24 ≤ 140737488355328 then Ref_Take.put x (x.l ++ [⟨false, []⟩]) j o else none) else Ref_Take.put x x.l j o
theorem Ref_Take.walk (w : World) (M : List Nat) (hM : MS M w) (g : Nat) (ao : Option Addr) (x : S_vineryref05_Pool) (f : RefAt w g ao x) (hL : ∀ y ∈ [g] ++ blkL ao, y ∈ M) (o : List UInt8) (k : Nat) (r : Int × Int × S_vineryref05_Pool) (H : Ref_Take.f k x o = some r) :
    To Try.prog 14 [.pointer (some ⟨g, 0, none⟩), .string (bstr o)] w fun v w' => ∃ ao2, v = .tuple #[.int .i64 r.1, .int .i64 r.2.1] ∧ RefAt w' g ao2 r.2.2 ∧ Chg ([g] ++ blkL ao) w w' ∧ Ok ([g] ++ blkL ao2) ([g] ++ blkL ao) w.heap.size ∧ MS (([g] ++ blkL ao2) ++ M) w' := by
  unfold Ref_Take.f at H
  obtain ⟨i, Hi, H⟩ := bind_some H
  obtain ⟨cap, h1, h2, h3⟩ := f
  have hgw : g < w.heap.size := h2.lt
  refine ent Try.func14 rfl [(0, .pointer (some ⟨g, 0, none⟩)), (1, .string (bstr o))] rfl (by rfl) fun a ha => ?_
  refine wp_seq_k fun K hK => ?_
  refine wp_region_lit ?_
  refine seg ha 2 [(0, .pointer (some ⟨g, 0, none⟩)), (1, .string (bstr o))] (by kernel_rfl) fun a ha => ?_
  refine hK _ _ ?_; clear hK K
  refine wp_seq_k fun K hK => ?_
  refine wp_region_lit ?_
  refine seg ha 2 [(0, .pointer (some ⟨g, 0, none⟩)), (1, .string (bstr o)), (7, .pointer (some ⟨g, 0, none⟩)), (8, .string (bstr o))] (by kernel_rfl) fun a ha => ?_
  refine cl ha (by rfl) (by kernel_rfl) (by rfl) (by rfl) (by rfl) (ref_at w g ao cap x h1 h2 h3 o k i Hi) ?_
  rintro _ w1 ⟨rfl, c1⟩ a ha
  have h2 := h2.chg c1 (fun h => nomatch h)
  have h3 := own_slot (M' := blkL ao) h3 c1 (fun _ _ h => nomatch h) (fun _ h => h)
  have hM := hM.chg c1
  refine seg ha 1 [(0, .pointer (some ⟨g, 0, none⟩)), (1, .string (bstr o)), (6, .int .i64 i)] (by kernel_rfl) fun a ha => ?_
  refine hK _ _ ?_; clear hK K
  refine wp_seq_k fun K hK => ?_
  refine wp_seq_k fun K2 hK2 => ?_
  refine wp_region_lit ?_
  refine seg ha 2 [(0, .pointer (some ⟨g, 0, none⟩)), (1, .string (bstr o)), (6, .int .i64 i), (11, .bool (decide (i ≥ (0 : Int))))] (by kernel_rfl) fun a ha => ?_
  refine hK2 _ _ ?_; clear hK2 K2
  refine cnd ha rfl (fun hc => ?_) (fun hc => ?_)
  · have H := Option.some.inj (ite_t hc H)
    refine wp_seq_k fun K2 hK2 => ?_
    refine wp_region_lit ?_
    refine seg ha 3 [(6, .int .i64 i), (14, .pointer (some ⟨g, 0, none⟩))] (by kernel_rfl) fun a ha => ?_
    refine ld (v := .int .i64 x.first) ha rfl (by kernel_rfl) rfl rfl rfl (h2.cell' (o := 0) rfl (by kernel_rfl)) fun a ha => ?_
    refine seg ha 4 [(4, .int .i64 (IntKind.i64.wrap (x.first + i))), (5, .int .i64 0)] (by kernel_rfl) fun a ha => ?_
    refine hK2 _ _ ?_; clear hK2 K2
    refine wp_ret ?_
    simp only [Exit.then, Exit.inBlock]
    subst H
    exact rt2 ha rfl rfl rfl ⟨ao, rfl, ⟨cap, h1, h2, h3⟩, c1.mono (Ok.nil _ _), Ok.refl _ _, fun y hy => (List.mem_append.1 hy).elim (fun h => hM y (hL y h)) (hM y)⟩
  have H := ite_f hc H
  obtain ⟨s, Hs, H⟩ := bind_some H
  refine wp_skip ?_
  refine hK _ _ ?_; clear hK K
  refine wp_seq_k fun K hK => ?_
  refine wp_region_lit ?_
  refine seg ha 1 [(0, .pointer (some ⟨g, 0, none⟩)), (1, .string (bstr o)), (6, .int .i64 (0 : Int))] (by kernel_rfl) fun a ha => ?_
  refine hK _ _ ?_; clear hK K
  refine wp_seq_k fun K hK => ?_
  refine wp_block ?_
  have J : ∀ (a : Act), Has a Try.f14.ntmps [(0, .pointer (some ⟨g, 0, none⟩)), (1, .string (bstr o)), (6, .int .i64 s)] → K a w1 := by
    intro a ha
    refine hK _ _ ?_; clear hK K
    refine wp_seq_k fun K hK => ?_
    refine wp_seq_k fun K2 hK2 => ?_
    refine wp_region_lit ?_
    refine seg ha 4 [(0, .pointer (some ⟨g, 0, none⟩)), (1, .string (bstr o)), (6, .int .i64 s), (37, .int .i64 s), (40, .pointer (some ⟨g, 1, none⟩))] (by kernel_rfl) fun a ha => ?_
    refine ld (v := .int .i64 x.count) ha rfl (by kernel_rfl) rfl rfl rfl (h2.cell' (o := 1) rfl (by kernel_rfl)) fun a ha => ?_
    refine seg ha 1 [(0, .pointer (some ⟨g, 0, none⟩)), (1, .string (bstr o)), (6, .int .i64 s), (42, .bool (s == x.count))] (by kernel_rfl) fun a ha => ?_
    refine hK2 _ _ ?_; clear hK2 K2
    refine cnd ha rfl (fun hc2 => ?_) (fun hc2 => ?_)
    · have H := Option.some.inj (ite_t hc2 H)
      refine wp_seq_k fun K2 hK2 => ?_
      refine wp_region_lit ?_
      refine seg ha 2 [(4, .int .i64 0), (5, .int .i64 6)] (by kernel_rfl) fun a ha => ?_
      refine hK2 _ _ ?_; clear hK2 K2
      refine wp_ret ?_
      simp only [Exit.then, Exit.inBlock]
      subst H
      exact rt2 ha rfl rfl rfl ⟨ao, rfl, ⟨cap, h1, h2, h3⟩, c1.mono (Ok.nil _ _), Ok.refl _ _, fun y hy => (List.mem_append.1 hy).elim (fun h => hM y (hL y h)) (hM y)⟩
    have H := ite_f hc2 H
    refine wp_skip ?_
    refine hK _ _ ?_; clear hK K
    refine wp_seq_k fun K hK => ?_
    have fin : ∀ (a : Act) (w2 : World) (ao2 : Option Addr) (cap2 : Nat) (l : List S_vineryref05_slot), Has a Try.f14.ntmps [(0, .pointer (some ⟨g, 0, none⟩)), (1, .string (bstr o)), (6, .int .i64 s)] → Ref_Take.put x l s o = some r → g ∉ blkL ao2 → Box w2 g (cS_vineryref05_Pool ⟨x.first, x.count, l⟩ ao2 cap2) → Own rS_vineryref05_slot 63 w2 (blkL ao2) ao2 cap2 l →
        Chg ([g] ++ blkL ao) w w2 → Ok ([g] ++ blkL ao2) ([g] ++ blkL ao) w.heap.size → MS M w2 → K a w2 := by
      intro a w2 ao2 cap2 l ha H h1 h2 h3 hC hok hM
      unfold Ref_Take.put at H
      obtain ⟨⟨hx, hx'⟩, H⟩ := ite_some H
      have H := Option.some.inj H
      refine hK _ _ ?_; clear hK K
      refine wp_seq_k fun K hK => ?_
      refine wp_region_lit ?_
      refine seg ha 3 [(0, .pointer (some ⟨g, 0, none⟩)), (1, .string (bstr o)), (6, .int .i64 s), (62, .pointer (some ⟨g, 2, none⟩))] (by kernel_rfl) fun a ha => ?_
      refine ld (v := .slice ao2 l.length cap2) ha rfl (by kernel_rfl) rfl rfl rfl (h2.cell' (o := 2) rfl (by kernel_rfl)) fun a ha => ?_
      refine seg ha 2 [(0, .pointer (some ⟨g, 0, none⟩)), (6, .int .i64 s), (63, .slice ao2 l.length cap2), (64, .int .i64 s), (65, .string (bstr o))] (by kernel_rfl) fun a ha => ?_
      refine opk (v := .agg (cS_vineryref05_slot ⟨true, o⟩).toArray) ha rfl rfl rfl rfl rfl (fun w => by kernel_rfl) fun a ha => ?_
      obtain ⟨g1, rfl⟩ : ∃ g1, ao2 = some ⟨g1, 0, none⟩ := by
        rcases h3 with ⟨_, e, _⟩ | ⟨g1, _, e, _⟩
        · rw [e] at hx'; simp at hx'; omega
        · exact ⟨g1, e⟩
      refine hop (v := .pointer (some ⟨g1, 0 + s.toNat * rS_vineryref05_slot.sz, none⟩)) (w' := w2) ha rfl rfl rfl (ix_run (r := rS_vineryref05_slot) (T := 63) (xs := l) (k := .i64) (i := s) ha (by kernel_rfl) (by kernel_rfl) rfl rfl rfl hx hx') fun a ha => ?_
      refine stS (i := s.toNat) (z := (⟨true, o⟩ : S_vineryref05_slot)) (l := cS_vineryref05_slot ⟨true, o⟩) ha rfl (by rw [Nat.zero_add]) rfl (by kernel_rfl) rfl rfl h3 (by omega) rfl (fun _ _ => rS_vineryref05_slot.mk _) fun a w3 ha h3 c3 => ?_
      refine wpl_end ?_
      have hg1 : g ≠ g1 := fun e => h1 (by simp [blkL, e])
      have h2 := h2.chg c3 (by simp [hg1])
      have ha := ha.sel (env' := [(0, .pointer (some ⟨g, 0, none⟩)), (6, .int .i64 s)]) (by kernel_rfl)
      refine hK _ _ ?_; clear hK K
      refine wp_seq_k fun K hK => ?_
      refine wp_region_lit ?_
      refine seg ha 3 [(6, .int .i64 s), (70, .pointer (some ⟨g, 0, none⟩))] (by kernel_rfl) fun a ha => ?_
      refine ld (v := .int .i64 x.first) ha rfl (by kernel_rfl) rfl rfl rfl (h2.cell' (o := 0) rfl (by kernel_rfl)) fun a ha => ?_
      refine seg ha 4 [(4, .int .i64 (IntKind.i64.wrap (x.first + s))), (5, .int .i64 0)] (by kernel_rfl) fun a ha => ?_
      refine hK _ _ ?_; clear hK K
      refine wp_ret ?_
      subst H
      have hl : (l.set s.toNat ⟨true, o⟩).length = l.length := List.length_set
      have h2 : Box w3 g (cS_vineryref05_Pool ⟨x.first, x.count, l.set s.toNat ⟨true, o⟩⟩ (some ⟨g1, 0, none⟩) cap2) := by
        unfold cS_vineryref05_Pool
        rw [hl]; exact h2
      have hM := hM.chg c3
      refine rt2 ha rfl rfl rfl ⟨some ⟨g1, 0, none⟩, rfl, ⟨cap2, h1, h2, h3⟩, hC.trans c3 (Ok.one (hok g1 (by simp [blkL]))), hok, MS.app ?_ hM⟩
      intro y hy
      rcases List.mem_append.1 hy with hy | hy
      · simp at hy; subst hy; exact h2.lt
      · exact h3.lt y hy
    refine wp_seq_k fun K2 hK2 => ?_
    refine wp_region_lit ?_
    refine seg ha 4 [(0, .pointer (some ⟨g, 0, none⟩)), (1, .string (bstr o)), (6, .int .i64 s), (43, .int .i64 s), (46, .pointer (some ⟨g, 2, none⟩))] (by kernel_rfl) fun a ha => ?_
    refine ld (v := .slice ao x.l.length cap) ha rfl (by kernel_rfl) rfl rfl rfl (h2.cell' (o := 2) rfl (by kernel_rfl)) fun a ha => ?_
    refine seg ha 2 [(0, .pointer (some ⟨g, 0, none⟩)), (1, .string (bstr o)), (6, .int .i64 s), (49, .bool (s == (x.l.length : Int)))] (by kernel_rfl) fun a ha => ?_
    refine hK2 _ _ ?_; clear hK2 K2
    refine cnd ha rfl (fun hc3 => ?_) (fun hc3 => ?_)
    · obtain ⟨hb, H⟩ := ite_some (ite_t hc3 H)
      refine wp_region_lit ?_
      refine seg ha 4 [(0, .pointer (some ⟨g, 0, none⟩)), (1, .string (bstr o)), (6, .int .i64 s), (50, .pointer (some ⟨g, 0, none⟩)), (53, .pointer (some ⟨g, 2, none⟩))] (by kernel_rfl) fun a ha => ?_
      refine ld (v := .slice ao x.l.length cap) ha rfl (by kernel_rfl) rfl rfl rfl (h2.cell' (o := 2) rfl (by kernel_rfl)) fun a ha => ?_
      refine opk (v := .agg (cS_vineryref05_slot ⟨false, []⟩).toArray) ha rfl rfl rfl rfl rfl (fun w => by kernel_rfl) fun a ha => ?_
      have hlt := h3.lt
      refine bsl (vals := [.agg (cS_vineryref05_slot ⟨false, []⟩).toArray]) (T := 63) ha rfl (cS_vineryref05_slot ⟨false, []⟩) (fun w => by kernel_rfl) rfl rfl rfl fun a w2 gN hN ha => ?_
      have h2 := h2.chg hN.chg (fun h => nomatch h)
      have h3 := own_slot (M' := blkL ao) h3 hN.chg (fun _ _ h => nomatch h) (fun _ h => h)
      have hM := hM.chg hN.chg
      have hsz := hN.size
      have hge := hN.ge
      have hsrc : Src rS_vineryref05_slot 63 w2 (blkL ao) (some ⟨gN, 0, none⟩) 1 [(⟨false, []⟩ : S_vineryref05_slot)] := by
        have hO : Own rS_vineryref05_slot 63 w2 ([gN] ++ blkL ao) (some ⟨gN, 0, none⟩) 1 [(⟨false, []⟩ : S_vineryref05_slot)] := hN.own ⟨cS_vineryref05_slot ⟨false, []⟩, [], by simp, rS_vineryref05_slot.mk _, rfl⟩ (by decide)
        exact (hO.toRSl (M' := blkL ao) (fun y hy => .inl (mr hy)) (fun y hy hz => absurd (hlt y hz) (by simp [blkL] at hy; have := h3.lt y hz; have := h2.lt; omega))).src
      refine app (r := rS_vineryref05_slot) (xs := x.l) (ys := [(⟨false, []⟩ : S_vineryref05_slot)]) ha (ElemT.mk' (bytes := 24) (by kernel_rfl)) rfl rfl rfl rfl rfl h3 hsrc hb (by decide) fun a w3 ao2 cap2 hO2 c3 hok hlt2 ha => ?_
      have h2 := h2.chg c3 h1
      have hM := hM.chg c3
      have h1' : g ∉ blkL ao2 := fun h => (hok g h).elim h1 (fun h => absurd h (by have := c1.size; omega))
      refine seg ha 2 [(0, .pointer (some ⟨g, 0, none⟩)), (1, .string (bstr o)), (6, .int .i64 s), (57, .slice ao2 (x.l ++ [(⟨false, []⟩ : S_vineryref05_slot)]).length cap2), (59, .pointer (some ⟨g, 2, none⟩))] (by kernel_rfl) fun a ha => ?_
      refine st ha rfl rfl rfl (by kernel_rfl) rfl rfl h2 (Nat.le_of_ble_eq_true (by kernel_rfl)) fun a w4 ha hb2 c4 _ => ?_
      refine wpl_end ?_
      have hB : Box w4 g (cS_vineryref05_Pool ⟨x.first, x.count, x.l ++ [⟨false, []⟩]⟩ ao2 cap2) := hb2
      have h3 := own_slot (M' := blkL ao2) hO2 c4 (fun y hy e => h1' (by simp at e; rw [← e]; exact hy)) (fun _ h => h)
      have q := ((c1.mono (gs' := [g] ++ blkL ao) (Ok.nil _ _)).trans hN.chg (Ok.nil _ _)).trans c3 (fun y hy => .inl (mr hy))
      refine fin _ _ ao2 cap2 _ (ha.sel (by kernel_rfl)) H h1' hB h3 (q.trans c4 (Ok.one (.inl (by simp)))) ?_ (hM.chg c4)
      intro y hy
      rcases List.mem_append.1 hy with hy | hy
      · exact .inl (ml hy)
      · rcases hok y hy with h | h
        · exact .inl (mr h)
        · exact .inr (by have := c1.size; omega)
    · have H := ite_f hc3 H
      refine wp_skip ?_
      exact fin _ _ ao cap _ (ha.sel (by kernel_rfl)) H h1 h2 h3 (c1.mono (Ok.nil _ _)) (Ok.refl _ _) hM
  refine wp_loop_ghost (fun kk a w2 => ∃ n : Int, Ref_Take.l0 x kk n = some s ∧ Has a Try.f14.ntmps [(0, .pointer (some ⟨g, 0, none⟩)), (1, .string (bstr o)), (6, .int .i64 n)] ∧ w2 = w1) k ?_ ?_
  · exact ⟨0, Hs, ha.sel (by kernel_rfl), rfl⟩
  · rintro kk a w2 ⟨n, Hn, ha, rfl⟩
    obtain _ | kk := kk
    · exact nomatch (show none = some _ from Hn)
    rw [Ref_Take.l0] at Hn
    have f1 := RefAt.rsl h1 h3
    refine wp_seq_k fun K2 hK2 => ?_
    refine wp_seq_k fun K3 hK3 => ?_
    refine wp_region_lit ?_
    have end2 : ∀ (a : Act) (b : Bool), Has a Try.f14.ntmps [(0, .pointer (some ⟨g, 0, none⟩)), (1, .string (bstr o)), (6, .int .i64 n), (34, .bool b)] → (b = true → Ref_Take.l0 x kk (IntKind.i64.wrap (n + (1 : Int))) = some s) → (b = false → some n = some s) → K3 a w2 := by
      intro a b ha ht hf
      refine hK3 _ _ ?_; clear hK3 K3
      refine cnd ha rfl (fun hc3 => ?_) (fun hc3 => ?_)
      · refine wp_skip ?_
        refine hK2 _ _ ?_; clear hK2 K2
        refine wp_block ?_
        refine wp_region_lit ?_
        refine seg ha 3 [(0, .pointer (some ⟨g, 0, none⟩)), (1, .string (bstr o)), (6, .int .i64 (IntKind.i64.wrap (n + (1 : Int))))] (by kernel_rfl) fun a ha => ?_
        exact ⟨kk, Nat.lt_succ_self _, ⟨_, ht hc3, ha.sel (by kernel_rfl), rfl⟩⟩
      · refine wp_exit ?_
        simp only [Exit.then, Exit.inBlock, ↓reduceIte, Nat.reduceEqDiff]
        obtain rfl := Option.some.inj (hf hc3)
        exact J _ (ha.sel (by kernel_rfl))
    refine seg ha 4 [(0, .pointer (some ⟨g, 0, none⟩)), (1, .string (bstr o)), (6, .int .i64 n), (18, .int .i64 n), (21, .pointer (some ⟨g, 2, none⟩))] (by kernel_rfl) fun a ha => ?_
    refine ld (v := .slice ao x.l.length cap) ha rfl (by kernel_rfl) rfl rfl rfl (h2.cell' (o := 2) rfl (by kernel_rfl)) fun a ha => ?_
    refine seg ha 3 [(25, .bool (decide (n < (x.l.length : Int)))), (0, .pointer (some ⟨g, 0, none⟩)), (1, .string (bstr o)), (6, .int .i64 n)] (by kernel_rfl) fun a ha => ?_
    rcases Bool.eq_false_or_eq_true (decide (n < (x.l.length : Int))) with hb | hb
    · have ha := ha.lit hb
      have Hn := ite_t hb Hn
      obtain ⟨⟨hx, hx'⟩, Hn⟩ := ite_some Hn
      refine sgh ha 3 [2, 2, 2] [(25, .bool true), (0, .pointer (some ⟨g, 0, none⟩)), (1, .string (bstr o)), (6, .int .i64 n), (28, .pointer (some ⟨g, 2, none⟩))] (by kernel_rfl) fun a ha => ?_
      refine ld (v := .slice ao x.l.length cap) ha rfl (by kernel_rfl) rfl rfl rfl (h2.cell' (o := 2) rfl (by kernel_rfl)) fun a ha => ?_
      refine sgh ha 1 [2] [(25, .bool true), (0, .pointer (some ⟨g, 0, none⟩)), (1, .string (bstr o)), (6, .int .i64 n), (29, .slice ao x.l.length cap), (30, .int .i64 n)] (by kernel_rfl) fun a ha => ?_
      refine ix (r := rS_vineryref05_slot) ha (by kernel_rfl) (by kernel_rfl) rfl rfl rfl rfl rfl f1 hx hx' fun a ge oe cs hn hR hE ha => ?_
      rw [rd_get] at hR
      obtain rfl := rS_vineryref05_slot.open hR
      refine sgh ha 1 [2] [(25, .bool true), (0, .pointer (some ⟨g, 0, none⟩)), (1, .string (bstr o)), (6, .int .i64 n), (32, .pointer (some ⟨ge, oe, none⟩))] (by kernel_rfl) fun a ha => ?_
      refine ld ha rfl (by kernel_rfl) rfl rfl rfl (hE 0 (.bool (rd x.l n).is) (by kernel_rfl)) fun a ha => ?_
      refine sgh ha 1 [3] [(0, .pointer (some ⟨g, 0, none⟩)), (1, .string (bstr o)), (6, .int .i64 n), (34, .bool (rd x.l n).is)] (by kernel_rfl) fun a ha => ?_
      refine end2 _ _ (ha.sel (by kernel_rfl)) (fun e => ite_t e Hn) (fun e => ite_f e Hn)
    · have ha := ha.lit hb
      have Hn := ite_f hb Hn
      refine sgh ha 9 [1, 1, 1, 1, 1, 1, 1, 1, 4] [(0, .pointer (some ⟨g, 0, none⟩)), (1, .string (bstr o)), (6, .int .i64 n), (34, .bool false)] (by kernel_rfl) fun a ha => ?_
      exact end2 _ false (ha.sel (by kernel_rfl)) (fun e => nomatch e) (fun _ => Hn)











def vinerylaw05_LabelPlays.l0 (a2 : List S_vinerylaw05_Act) : Nat → Int → Option (Unit)
  | 0, _ => none
  | kk + 1, x20 => (if (if (decide (x20 < (a2.length : Int))) = true then (decide (x20 < (100 : Int))) else false) = true then none else some (() : Unit))
def vinerylaw05_LabelPlays.l1 (a2 : List S_vinerylaw05_Act) : Nat → Int → Option (Unit)
  | 0, _ => none
  | kk + 1, x36 => (if (if (decide (x36 < (a2.length : Int))) = true then (decide (x36 < (100 : Int))) else false) = true then none else some (() : Unit))
def vinerylaw05_LabelPlays.l2 (a2 : List S_vinerylaw05_Act) : Nat → Int → Option (Unit)
  | 0, _ => none
  | kk + 1, x54 => (if (if (decide (x54 < (a2.length : Int))) = true then (decide (x54 < (100 : Int))) else false) = true then none else some (() : Unit))
def vinerylaw05_LabelPlays.l3 (k : Nat) (a2 : List S_vinerylaw05_Act) : Nat → PoolS → S_vineryref05_Pool → Int → Option ((Bool) ⊕ (Unit))
  | 0, _, _, _ => none
  | kk + 1, x71, x72, x73 => (if (if (decide (x73 < (a2.length : Int))) = true then (decide (x73 < (100 : Int))) else false) = true then (if 0 ≤ x73 ∧ x73 < (a2.length : Int) then (if (((rd a2 x73).Do) == (0 : Int)) = true then (Pool_Take.f k x71 ((rd a2 x73).S)).bind fun t98 => (Ref_Take.f k x72 ((rd a2 x73).S)).bind fun t100 => (if (if (t98.1 != t100.1) = true then true else (t98.2.1 != t100.2.1)) = true then some (.inl ((false : Bool))) else (Pool_Count.f t98.2.2).bind fun t105 => (Ref_Count.f k t100.2.2).bind fun t106 => (if (t105 != t106) = true then some (.inl ((false : Bool))) else vinerylaw05_LabelPlays.l3 k a2 kk t98.2.2 t100.2.2 (IntKind.i64.wrap (x73 + (1 : Int))))) else (if (((rd a2 x73).Do) == (1 : Int)) = true then (Pool_Free.f x71 ((rd a2 x73).S)).bind fun t115 => (Ref_Free.f k x72 ((rd a2 x73).S)).bind fun t117 => (if (!(t115.1 == t117.1)) = true then some (.inl ((false : Bool))) else (Pool_Count.f t115.2).bind fun t121 => (Ref_Count.f k t117.2).bind fun t122 => (if (t121 != t122) = true then some (.inl ((false : Bool))) else vinerylaw05_LabelPlays.l3 k a2 kk t115.2 t117.2 (IntKind.i64.wrap (x73 + (1 : Int))))) else (if (((rd a2 x73).Do) == (2 : Int)) = true then (Pool_Of.f x71 ((rd a2 x73).S)).bind fun t128 => (Ref_Of.f k x72 ((rd a2 x73).S)).bind fun t130 => (if (if (t128.1 != t130.1) = true then true else (!(t128.2 == t130.2))) = true then some (.inl ((false : Bool))) else (Pool_Count.f x71).bind fun t135 => (Ref_Count.f k x72).bind fun t136 => (if (t135 != t136) = true then some (.inl ((false : Bool))) else vinerylaw05_LabelPlays.l3 k a2 kk x71 x72 (IntKind.i64.wrap (x73 + (1 : Int))))) else (if (((rd a2 x73).Do) == (3 : Int)) = true then (Pool_Owner.f x71 ((rd a2 x73).N)).bind fun t142 => (Ref_Owner.f x72 ((rd a2 x73).N)).bind fun t144 => (if (if (!((bstr t142.1).toList == (bstr t144.1).toList)) = true then true else (!(t142.2 == t144.2))) = true then some (.inl ((false : Bool))) else (Pool_Count.f x71).bind fun t149 => (Ref_Count.f k x72).bind fun t150 => (if (t149 != t150) = true then some (.inl ((false : Bool))) else vinerylaw05_LabelPlays.l3 k a2 kk x71 x72 (IntKind.i64.wrap (x73 + (1 : Int))))) else (if (((rd a2 x73).Do) == (4 : Int)) = true then (Pool_Clear.f x71).bind fun t156 => (Ref_Clear.f x72).bind fun t157 => (Pool_Count.f t156).bind fun t159 => (Ref_Count.f k t157).bind fun t160 => (if (t159 != t160) = true then some (.inl ((false : Bool))) else vinerylaw05_LabelPlays.l3 k a2 kk t156 t157 (IntKind.i64.wrap (x73 + (1 : Int)))) else (Pool_Count.f x71).bind fun t164 => (Ref_Count.f k x72).bind fun t165 => (if (t164 != t165) = true then some (.inl ((false : Bool))) else vinerylaw05_LabelPlays.l3 k a2 kk x71 x72 (IntKind.i64.wrap (x73 + (1 : Int))))))))) else none) else some (.inr (() : Unit)))
def vinerylaw05_LabelPlays.f (k : Nat) (a0 : Int) (a1 : Int) (a2 : List S_vinerylaw05_Act) : Option (Bool) := (vinerylaw05_small.f k ).bind fun t4 => (Pool_New.f a0 a1).bind fun t6 => om t6.1 ((Ref_New.f a0 a1).bind fun t8 => om t8.1 (if (if (if (!t4) = true then true else (t6.2 != t8.2)) = true then true else (!(true == (t8.2 != (0 : Int))))) = true then some ((false : Bool)) else (if (t8.2 != (0 : Int)) = true then some ((true : Bool)) else (vinerylaw05_LabelPlays.l0 a2 k (0 : Int)).bind fun s19 => some ((true : Bool)))) fun x8 => (if (if (if (!t4) = true then true else (t6.2 != t8.2)) = true then true else (!(true == (t8.2 != (0 : Int))))) = true then some ((false : Bool)) else (if (t8.2 != (0 : Int)) = true then some ((true : Bool)) else (vinerylaw05_LabelPlays.l1 a2 k (0 : Int)).bind fun s35 => some ((true : Bool))))) fun x6 => (Ref_New.f a0 a1).bind fun t42 => om t42.1 (if (if (if (!t4) = true then true else (t6.2 != t42.2)) = true then true else (!(false == (t42.2 != (0 : Int))))) = true then some ((false : Bool)) else (if (t42.2 != (0 : Int)) = true then some ((true : Bool)) else (vinerylaw05_LabelPlays.l2 a2 k (0 : Int)).bind fun s53 => some ((true : Bool)))) fun x42 => (if (if (if (!t4) = true then true else (t6.2 != t42.2)) = true then true else (!(false == (t42.2 != (0 : Int))))) = true then some ((false : Bool)) else (if (t42.2 != (0 : Int)) = true then some ((true : Bool)) else (vinerylaw05_LabelPlays.l3 k a2 k x6 x42 (0 : Int)).bind fun s69 => match s69 with | .inl r => some r | .inr s69' => some ((true : Bool))))
set_option maxRecDepth 100000 in
theorem vinerylaw05_LabelPlays.walk (w : World) (M : List Nat) (hM : MS M w) (a0 : Int) (a1 : Int) (a2 : List S_vinerylaw05_Act) (ao1 : Option Addr) (cap1 : Nat) (f1 : RSl rS_vinerylaw05_Act 36 w M ao1 cap1 a2) (k : Nat) (r : Bool) (H : vinerylaw05_LabelPlays.f k a0 a1 a2 = some r) :
    To Try.prog 4 [.int .i64 a0, .int .i64 a1, .slice ao1 a2.length cap1] w fun v w' => v = .bool r ∧ Chg [] w w' ∧ MS (M) w' := by
 unfold vinerylaw05_LabelPlays.f at H
 refine ent Try.func4 rfl [(0, .int .i64 a0), (1, .int .i64 a1), (2, .slice ao1 a2.length cap1)] rfl (by rfl) fun a ha => ?_
 have hC : Chg [] w w := Chg.refl _ _
 refine wp_seq_k fun K2 hK2 => ?_
 refine wp_region_lit ?_
 refine seg ha 1 [(0, .int .i64 a0), (1, .int .i64 a1), (2, .slice ao1 a2.length cap1)] (by kernel_rfl) fun a ha => ?_
 refine hK2 _ _ ?_; try clear hK2 K2
 refine wp_seq_k fun K3 hK3 => ?_
 refine wp_region_lit ?_
 obtain ⟨t4, H4, H⟩ := bind_some H
 refine cl ha (by rfl) (by kernel_rfl) (by rfl) (by rfl) (by rfl) (vinerylaw05_small.walk w _ hM  k _ H4) ?_
 rintro _ w4 ⟨rfl, hc4, hMn⟩ a ha
 have o1 : Ok [] (M) w.heap.size := Ok.nil _ _
 have o2 : Ok (M) (M) w.heap.size := (Ok.refl _ _)
 have f1 := f1.chg hc4 o1 o2
 have hM : MS (M) w4 := (hM.chg hc4)
 have hC := hC.trans hc4 (Ok.nil _ _)
 refine seg ha 1 [(0, .int .i64 a0), (1, .int .i64 a1), (2, .slice ao1 a2.length cap1), (7, .bool t4)] (by kernel_rfl) fun a ha => ?_
 refine hK3 _ _ ?_; try clear hK3 K3
 refine wp_seq_k fun K5 hK5 => ?_
 refine wp_region_lit ?_
 refine seg ha 2 [(0, .int .i64 a0), (1, .int .i64 a1), (2, .slice ao1 a2.length cap1), (7, .bool t4), (28, .int .i64 a0), (29, .int .i64 a1)] (by kernel_rfl) fun a ha => ?_
 obtain ⟨t6, H6, H⟩ := bind_some H
 refine cl ha (by rfl) (by kernel_rfl) (by rfl) (by rfl) (by rfl) (Pool_New.walk w4 _ hM a0 a1 _ H6) ?_
 rintro _ w6 ⟨po6, gO6, L6, rfl, hn6, hs6, ne_i6, hc6, hMn⟩ a ha
 rcases om_cases H with ⟨he6, H⟩ | ⟨x6, he6, H⟩
 ·skip
  obtain ⟨rfl, rfl⟩ := hn6 he6
  have o1 : Ok [] (M) w4.heap.size := Ok.nil _ _
  have o2 : Ok (M) (M) w4.heap.size := (Ok.refl _ _)
  have f1 := f1.chg hc6 o1 o2
  have hM : MS (M) w6 := (hM.chg hc6)
  have hC := hC.trans hc6 (Ok.nil _ _)
  refine seg ha 5 [(0, .int .i64 a0), (1, .int .i64 a1), (2, .slice ao1 a2.length cap1), (7, .bool t4), (8, .pointer none), (9, .int .i64 t6.2)] (by kernel_rfl) fun a ha => ?_
  refine hK5 _ _ ?_; try clear hK5 K5
  refine wp_seq_k fun K7 hK7 => ?_
  refine wp_region_lit ?_
  refine seg ha 2 [(2, .slice ao1 a2.length cap1), (7, .bool t4), (8, .pointer none), (9, .int .i64 t6.2), (34, .int .i64 a0), (35, .int .i64 a1)] (by kernel_rfl) fun a ha => ?_
  obtain ⟨t8, H8, H⟩ := bind_some H
  refine cl ha (by rfl) (by kernel_rfl) (by rfl) (by rfl) (by rfl) (Ref_New.walk w6 _ hM a0 a1 _ H8) ?_
  rintro _ w8 ⟨po8, gO8, L8, rfl, hn8, hs8, ne_i8, hc8, hMn⟩ a ha
  rcases om_cases H with ⟨he8, H⟩ | ⟨x8, he8, H⟩
  ·skip
   obtain ⟨rfl, rfl⟩ := hn8 he8
   have o1 : Ok [] (M) w6.heap.size := Ok.nil _ _
   have o2 : Ok (M) (M) w6.heap.size := (Ok.refl _ _)
   have f1 := f1.chg hc8 o1 o2
   have hM : MS (M) w8 := (hM.chg hc8)
   have hC := hC.trans hc8 (Ok.nil _ _)
   refine seg ha 5 [(2, .slice ao1 a2.length cap1), (7, .bool t4), (8, .pointer none), (9, .int .i64 t6.2), (10, .pointer none), (11, .int .i64 t8.2)] (by kernel_rfl) fun a ha => ?_
   refine hK7 _ _ ?_; try clear hK7 K7
   refine wp_seq_k fun K9 hK9 => ?_
   refine wp_seq_k fun K10 hK10 => ?_
   refine wp_region_lit ?_
   refine seg ha 14 [(2, .slice ao1 a2.length cap1), (8, .pointer none), (10, .pointer none), (11, .int .i64 t8.2), (52, .bool (if (if (!t4) = true then true else (t6.2 != t8.2)) = true then true else (!(true == (t8.2 != (0 : Int))))))] (by kernel_rfl) fun a ha => ?_
   refine hK10 _ _ ?_; try clear hK10 K10
   refine cnd ha rfl (fun hc11 => ?_) (fun hc11 => ?_)
   ·have H := ite_t hc11 H
    refine wp_seq_k fun K12 hK12 => ?_
    refine wp_region_lit ?_
    refine seg ha 1 [(6, .bool false)] (by kernel_rfl) fun a ha => ?_
    refine hK12 _ _ ?_; try clear hK12 K12
    refine wp_ret ?_
    try simp only [Exit.then, Exit.inBlock]
    obtain rfl := Option.some.inj H
    refine rt1 ha rfl rfl ?_
    exact ⟨rfl, hC, hM⟩
   ·have H := ite_f hc11 H
    refine wp_skip ?_
    refine hK9 _ _ ?_; try clear hK9 K9
    refine wp_seq_k fun K13 hK13 => ?_
    refine wp_seq_k fun K14 hK14 => ?_
    refine wp_region_lit ?_
    refine seg ha 2 [(2, .slice ao1 a2.length cap1), (8, .pointer none), (10, .pointer none), (54, .bool (t8.2 != (0 : Int)))] (by kernel_rfl) fun a ha => ?_
    refine hK14 _ _ ?_; try clear hK14 K14
    refine cnd ha rfl (fun hc15 => ?_) (fun hc15 => ?_)
    ·have H := ite_t hc15 H
     refine wp_seq_k fun K16 hK16 => ?_
     refine wp_region_lit ?_
     refine seg ha 1 [(6, .bool true)] (by kernel_rfl) fun a ha => ?_
     refine hK16 _ _ ?_; try clear hK16 K16
     refine wp_ret ?_
     try simp only [Exit.then, Exit.inBlock]
     obtain rfl := Option.some.inj H
     refine rt1 ha rfl rfl ?_
     exact ⟨rfl, hC, hM⟩
    ·have H := ite_f hc15 H
     refine wp_skip ?_
     refine hK13 _ _ ?_; try clear hK13 K13
     refine wp_seq_k fun K17 hK17 => ?_
     refine wp_seq_k fun K18 hK18 => ?_
     refine wp_region_lit ?_
     refine seg ha 1 [(2, .slice ao1 a2.length cap1), (8, .pointer none), (10, .pointer none), (12, .int .i64 (0 : Int))] (by kernel_rfl) fun a ha => ?_
     refine hK18 _ _ ?_; try clear hK18 K18
     refine wp_block ?_
     obtain ⟨s19, H19, H⟩ := bind_some H
     have J19 : ∀ (a : Act) (wx19 : World), Has a Try.f4.ntmps [] → (Chg [] w wx19) → (MS (M) wx19) → K17 a wx19 := by
      intro a wx19 ha hC hM
      refine hK17 _ _ ?_; try clear hK17 K17
      refine wp_seq_k fun K21 hK21 => ?_
      refine wp_region_lit ?_
      refine seg ha 1 [(6, .bool true)] (by kernel_rfl) fun a ha => ?_
      refine hK21 _ _ ?_; try clear hK21 K21
      refine wp_ret ?_
      try simp only [Exit.then, Exit.inBlock]
      obtain rfl := Option.some.inj H
      refine rt1 ha rfl rfl ?_
      exact ⟨rfl, hC, hM⟩
     have Hc19 := H
     have H := H19
     refine wp_loop_ghost (fun kk a w19 => ∃ (x20 : Int), vinerylaw05_LabelPlays.l0 a2 kk x20 = some s19 ∧ Has a Try.f4.ntmps [(2, .slice ao1 a2.length cap1), (8, .pointer none), (10, .pointer none), (12, .int .i64 x20)] ∧ (RSl rS_vinerylaw05_Act 36 w19 (M) ao1 cap1 a2) ∧ (Chg [] w w19) ∧ (MS (M) w19)) k ?_ ?_
     ·skip
      exact ⟨(0 : Int), H, (ha.sel (by kernel_rfl)), f1, hC, hM⟩
     ·rintro kk a w19 ⟨x20, H, ha, f1, hC, hM⟩
      obtain _ | kk := kk
      ·exact nomatch (show none = some _ from H)
      rw [vinerylaw05_LabelPlays.l0] at H
      refine wp_seq_k fun K22 hK22 => ?_
      refine wp_seq_k fun K23 hK23 => ?_
      refine wp_region_lit ?_
      refine seg ha 8 [(2, .slice ao1 a2.length cap1), (8, .pointer none), (10, .pointer none), (12, .int .i64 x20), (62, .bool (if (decide (x20 < (a2.length : Int))) = true then (decide (x20 < (100 : Int))) else false))] (by kernel_rfl) fun a ha => ?_
      refine hK23 _ _ ?_; try clear hK23 K23
      refine cnd ha rfl (fun hc24 => ?_) (fun hc24 => ?_)
      ·have H := ite_t hc24 H
       exact nomatch (show none = some _ from H)
      ·have H := ite_f hc24 H
       refine wp_exit ?_
       simp only [Exit.then, Exit.inBlock, ↓reduceIte, Nat.reduceEqDiff]
       obtain rfl := Option.some.inj H
       exact J19 _ _ (ha.sel (by kernel_rfl)) hC hM
  ·skip
   obtain ⟨rfl, rfl, fO8⟩ := hs8 x8 he8
   have o1 : Ok [] (M) w6.heap.size := Ok.nil _ _
   have o2 : Ok (([gO8] ++ blkL none) ++ (M)) (M) w6.heap.size := (Ok.app (fun x h => .inr (ne_i8 x h)) (Ok.refl _ _))
   have f1 := f1.chg hc8 o1 o2
   have p_i8_M : ∀ x ∈ ([gO8] ++ blkL none), x ∉ M := fun x hx hy => absurd (hM x (hy)) (Nat.not_lt.2 (ne_i8 x hx))
   have e_i8 : ∀ x ∈ ([gO8] ++ blkL none), w.heap.size ≤ x := fun x hx => Nat.le_trans hC.size (ne_i8 x hx)
   have hM : MS (([gO8] ++ blkL none) ++ (M)) w8 := (MS.app (fun x h => hMn x (ml h)) (hM.chg hc8))
   have hC := hC.trans hc8 (Ok.nil _ _)
   refine seg ha 5 [(2, .slice ao1 a2.length cap1), (7, .bool t4), (8, .pointer none), (9, .int .i64 t6.2), (10, .pointer (some ⟨gO8, 0, none⟩)), (11, .int .i64 t8.2)] (by kernel_rfl) fun a ha => ?_
   refine hK7 _ _ ?_; try clear hK7 K7
   refine wp_seq_k fun K25 hK25 => ?_
   refine wp_seq_k fun K26 hK26 => ?_
   refine wp_region_lit ?_
   refine seg ha 14 [(2, .slice ao1 a2.length cap1), (8, .pointer none), (10, .pointer (some ⟨gO8, 0, none⟩)), (11, .int .i64 t8.2), (52, .bool (if (if (!t4) = true then true else (t6.2 != t8.2)) = true then true else (!(true == (t8.2 != (0 : Int))))))] (by kernel_rfl) fun a ha => ?_
   refine hK26 _ _ ?_; try clear hK26 K26
   refine cnd ha rfl (fun hc27 => ?_) (fun hc27 => ?_)
   ·have H := ite_t hc27 H
    refine wp_seq_k fun K28 hK28 => ?_
    refine wp_region_lit ?_
    refine seg ha 1 [(6, .bool false)] (by kernel_rfl) fun a ha => ?_
    refine hK28 _ _ ?_; try clear hK28 K28
    refine wp_ret ?_
    try simp only [Exit.then, Exit.inBlock]
    have hM : MS (M) w8 := (fun x h => hM.chg (Chg.refl [] _) x (mr (h)))
    have hC := hC.trans (Chg.refl [] _) (Ok.nil _ _)
    obtain rfl := Option.some.inj H
    refine rt1 ha rfl rfl ?_
    exact ⟨rfl, hC, hM⟩
   ·have H := ite_f hc27 H
    refine wp_skip ?_
    refine hK25 _ _ ?_; try clear hK25 K25
    refine wp_seq_k fun K29 hK29 => ?_
    refine wp_seq_k fun K30 hK30 => ?_
    refine wp_region_lit ?_
    refine seg ha 2 [(2, .slice ao1 a2.length cap1), (8, .pointer none), (10, .pointer (some ⟨gO8, 0, none⟩)), (54, .bool (t8.2 != (0 : Int)))] (by kernel_rfl) fun a ha => ?_
    refine hK30 _ _ ?_; try clear hK30 K30
    refine cnd ha rfl (fun hc31 => ?_) (fun hc31 => ?_)
    ·have H := ite_t hc31 H
     refine wp_seq_k fun K32 hK32 => ?_
     refine wp_region_lit ?_
     refine seg ha 1 [(6, .bool true)] (by kernel_rfl) fun a ha => ?_
     refine hK32 _ _ ?_; try clear hK32 K32
     refine wp_ret ?_
     try simp only [Exit.then, Exit.inBlock]
     have hM : MS (M) w8 := (fun x h => hM.chg (Chg.refl [] _) x (mr (h)))
     have hC := hC.trans (Chg.refl [] _) (Ok.nil _ _)
     obtain rfl := Option.some.inj H
     refine rt1 ha rfl rfl ?_
     exact ⟨rfl, hC, hM⟩
    ·have H := ite_f hc31 H
     refine wp_skip ?_
     refine hK29 _ _ ?_; try clear hK29 K29
     refine wp_seq_k fun K33 hK33 => ?_
     refine wp_seq_k fun K34 hK34 => ?_
     refine wp_region_lit ?_
     refine seg ha 1 [(2, .slice ao1 a2.length cap1), (8, .pointer none), (10, .pointer (some ⟨gO8, 0, none⟩)), (12, .int .i64 (0 : Int))] (by kernel_rfl) fun a ha => ?_
     refine hK34 _ _ ?_; try clear hK34 K34
     refine wp_block ?_
     obtain ⟨s35, H35, H⟩ := bind_some H
     have J35 : ∀ (a : Act) (wx35 : World), Has a Try.f4.ntmps [] → (Chg [] w wx35) → (MS (M) wx35) → K33 a wx35 := by
      intro a wx35 ha hC hM
      refine hK33 _ _ ?_; try clear hK33 K33
      refine wp_seq_k fun K37 hK37 => ?_
      refine wp_region_lit ?_
      refine seg ha 1 [(6, .bool true)] (by kernel_rfl) fun a ha => ?_
      refine hK37 _ _ ?_; try clear hK37 K37
      refine wp_ret ?_
      try simp only [Exit.then, Exit.inBlock]
      obtain rfl := Option.some.inj H
      refine rt1 ha rfl rfl ?_
      exact ⟨rfl, hC, hM⟩
     have Hc35 := H
     have H := H35
     refine wp_loop_ghost (fun kk a w35 => ∃ (x36 : Int), vinerylaw05_LabelPlays.l1 a2 kk x36 = some s35 ∧ Has a Try.f4.ntmps [(2, .slice ao1 a2.length cap1), (8, .pointer none), (10, .pointer (some ⟨gO8, 0, none⟩)), (12, .int .i64 x36)] ∧ (RSl rS_vinerylaw05_Act 36 w35 (([gO8] ++ blkL none) ++ (M)) ao1 cap1 a2) ∧ (RefAt w35 gO8 none x8) ∧ (Chg [] w w35) ∧ (MS (([gO8] ++ blkL none) ++ (M)) w35)) k ?_ ?_
     ·skip
      exact ⟨(0 : Int), H, (ha.sel (by kernel_rfl)), f1, fO8, hC, hM⟩
     ·rintro kk a w35 ⟨x36, H, ha, f1, fO8, hC, hM⟩
      obtain _ | kk := kk
      ·exact nomatch (show none = some _ from H)
      rw [vinerylaw05_LabelPlays.l1] at H
      refine wp_seq_k fun K38 hK38 => ?_
      refine wp_seq_k fun K39 hK39 => ?_
      refine wp_region_lit ?_
      refine seg ha 8 [(2, .slice ao1 a2.length cap1), (8, .pointer none), (10, .pointer (some ⟨gO8, 0, none⟩)), (12, .int .i64 x36), (62, .bool (if (decide (x36 < (a2.length : Int))) = true then (decide (x36 < (100 : Int))) else false))] (by kernel_rfl) fun a ha => ?_
      refine hK39 _ _ ?_; try clear hK39 K39
      refine cnd ha rfl (fun hc40 => ?_) (fun hc40 => ?_)
      ·have H := ite_t hc40 H
       exact nomatch (show none = some _ from H)
      ·have H := ite_f hc40 H
       refine wp_exit ?_
       simp only [Exit.then, Exit.inBlock, ↓reduceIte, Nat.reduceEqDiff]
       obtain rfl := Option.some.inj H
       have o1 : Ok [] (([gO8] ++ blkL none) ++ (M)) w35.heap.size := Ok.nil _ _
       have o2 : Ok (M) (([gO8] ++ blkL none) ++ (M)) w35.heap.size := (fun _ h => .inl (mr (h)))
       have f1 := f1.chg (Chg.refl [] _) o1 o2
       have fO8 := fO8.chg (Chg.refl [] _) (fun _ _ h => nomatch h)
       have hM : MS (M) w35 := (fun x h => hM.chg (Chg.refl [] _) x (mr (h)))
       have hC := hC.trans (Chg.refl [] _) (Ok.nil _ _)
       exact J35 _ _ (ha.sel (by kernel_rfl)) hC hM
 ·skip
  obtain ⟨rfl, fO6⟩ := hs6 x6 he6
  have o1 : Ok [] (M) w4.heap.size := Ok.nil _ _
  have o2 : Ok (L6 ++ (M)) (M) w4.heap.size := (Ok.app (fun x h => .inr (ne_i6 x h)) (Ok.refl _ _))
  have f1 := f1.chg hc6 o1 o2
  have p_i6_M : ∀ x ∈ L6, x ∉ M := fun x hx hy => absurd (hM x (hy)) (Nat.not_lt.2 (ne_i6 x hx))
  have e_i6 : ∀ x ∈ L6, w.heap.size ≤ x := fun x hx => Nat.le_trans hC.size (ne_i6 x hx)
  have hM : MS (L6 ++ (M)) w6 := (MS.app (fun x h => hMn x (ml h)) (hM.chg hc6))
  have hC := hC.trans hc6 (Ok.nil _ _)
  refine seg ha 5 [(0, .int .i64 a0), (1, .int .i64 a1), (2, .slice ao1 a2.length cap1), (7, .bool t4), (8, .pointer (some ⟨gO6, 0, none⟩)), (9, .int .i64 t6.2)] (by kernel_rfl) fun a ha => ?_
  refine hK5 _ _ ?_; try clear hK5 K5
  refine wp_seq_k fun K41 hK41 => ?_
  refine wp_region_lit ?_
  refine seg ha 2 [(2, .slice ao1 a2.length cap1), (7, .bool t4), (8, .pointer (some ⟨gO6, 0, none⟩)), (9, .int .i64 t6.2), (34, .int .i64 a0), (35, .int .i64 a1)] (by kernel_rfl) fun a ha => ?_
  obtain ⟨t42, H42, H⟩ := bind_some H
  refine cl ha (by rfl) (by kernel_rfl) (by rfl) (by rfl) (by rfl) (Ref_New.walk w6 _ hM a0 a1 _ H42) ?_
  rintro _ w42 ⟨po42, gO42, L42, rfl, hn42, hs42, ne_i42, hc42, hMn⟩ a ha
  rcases om_cases H with ⟨he42, H⟩ | ⟨x42, he42, H⟩
  ·skip
   obtain ⟨rfl, rfl⟩ := hn42 he42
   have o1 : Ok [] (L6 ++ (M)) w6.heap.size := Ok.nil _ _
   have o2 : Ok (L6 ++ (M)) (L6 ++ (M)) w6.heap.size := (Ok.refl _ _)
   have f1 := f1.chg hc42 o1 o2
   have fO6 := fO6.chg hc42 (fun _ _ h => nomatch h)
   have hM : MS (L6 ++ (M)) w42 := (hM.chg hc42)
   have hC := hC.trans hc42 (Ok.nil _ _)
   refine seg ha 5 [(2, .slice ao1 a2.length cap1), (7, .bool t4), (8, .pointer (some ⟨gO6, 0, none⟩)), (9, .int .i64 t6.2), (10, .pointer none), (11, .int .i64 t42.2)] (by kernel_rfl) fun a ha => ?_
   refine hK41 _ _ ?_; try clear hK41 K41
   refine wp_seq_k fun K43 hK43 => ?_
   refine wp_seq_k fun K44 hK44 => ?_
   refine wp_region_lit ?_
   refine seg ha 14 [(2, .slice ao1 a2.length cap1), (8, .pointer (some ⟨gO6, 0, none⟩)), (10, .pointer none), (11, .int .i64 t42.2), (52, .bool (if (if (!t4) = true then true else (t6.2 != t42.2)) = true then true else (!(false == (t42.2 != (0 : Int))))))] (by kernel_rfl) fun a ha => ?_
   refine hK44 _ _ ?_; try clear hK44 K44
   refine cnd ha rfl (fun hc45 => ?_) (fun hc45 => ?_)
   ·have H := ite_t hc45 H
    refine wp_seq_k fun K46 hK46 => ?_
    refine wp_region_lit ?_
    refine seg ha 1 [(6, .bool false)] (by kernel_rfl) fun a ha => ?_
    refine hK46 _ _ ?_; try clear hK46 K46
    refine wp_ret ?_
    try simp only [Exit.then, Exit.inBlock]
    have hM : MS (M) w42 := (fun x h => hM.chg (Chg.refl [] _) x (mr (h)))
    have hC := hC.trans (Chg.refl [] _) (Ok.nil _ _)
    obtain rfl := Option.some.inj H
    refine rt1 ha rfl rfl ?_
    exact ⟨rfl, hC, hM⟩
   ·have H := ite_f hc45 H
    refine wp_skip ?_
    refine hK43 _ _ ?_; try clear hK43 K43
    refine wp_seq_k fun K47 hK47 => ?_
    refine wp_seq_k fun K48 hK48 => ?_
    refine wp_region_lit ?_
    refine seg ha 2 [(2, .slice ao1 a2.length cap1), (8, .pointer (some ⟨gO6, 0, none⟩)), (10, .pointer none), (54, .bool (t42.2 != (0 : Int)))] (by kernel_rfl) fun a ha => ?_
    refine hK48 _ _ ?_; try clear hK48 K48
    refine cnd ha rfl (fun hc49 => ?_) (fun hc49 => ?_)
    ·have H := ite_t hc49 H
     refine wp_seq_k fun K50 hK50 => ?_
     refine wp_region_lit ?_
     refine seg ha 1 [(6, .bool true)] (by kernel_rfl) fun a ha => ?_
     refine hK50 _ _ ?_; try clear hK50 K50
     refine wp_ret ?_
     try simp only [Exit.then, Exit.inBlock]
     have hM : MS (M) w42 := (fun x h => hM.chg (Chg.refl [] _) x (mr (h)))
     have hC := hC.trans (Chg.refl [] _) (Ok.nil _ _)
     obtain rfl := Option.some.inj H
     refine rt1 ha rfl rfl ?_
     exact ⟨rfl, hC, hM⟩
    ·have H := ite_f hc49 H
     refine wp_skip ?_
     refine hK47 _ _ ?_; try clear hK47 K47
     refine wp_seq_k fun K51 hK51 => ?_
     refine wp_seq_k fun K52 hK52 => ?_
     refine wp_region_lit ?_
     refine seg ha 1 [(2, .slice ao1 a2.length cap1), (8, .pointer (some ⟨gO6, 0, none⟩)), (10, .pointer none), (12, .int .i64 (0 : Int))] (by kernel_rfl) fun a ha => ?_
     refine hK52 _ _ ?_; try clear hK52 K52
     refine wp_block ?_
     obtain ⟨s53, H53, H⟩ := bind_some H
     have J53 : ∀ (a : Act) (wx53 : World), Has a Try.f4.ntmps [] → (Chg [] w wx53) → (MS (M) wx53) → K51 a wx53 := by
      intro a wx53 ha hC hM
      refine hK51 _ _ ?_; try clear hK51 K51
      refine wp_seq_k fun K55 hK55 => ?_
      refine wp_region_lit ?_
      refine seg ha 1 [(6, .bool true)] (by kernel_rfl) fun a ha => ?_
      refine hK55 _ _ ?_; try clear hK55 K55
      refine wp_ret ?_
      try simp only [Exit.then, Exit.inBlock]
      obtain rfl := Option.some.inj H
      refine rt1 ha rfl rfl ?_
      exact ⟨rfl, hC, hM⟩
     have Hc53 := H
     have H := H53
     refine wp_loop_ghost (fun kk a w53 => ∃ (x54 : Int), vinerylaw05_LabelPlays.l2 a2 kk x54 = some s53 ∧ Has a Try.f4.ntmps [(2, .slice ao1 a2.length cap1), (8, .pointer (some ⟨gO6, 0, none⟩)), (10, .pointer none), (12, .int .i64 x54)] ∧ (RSl rS_vinerylaw05_Act 36 w53 (L6 ++ (M)) ao1 cap1 a2) ∧ (PoolAt w53 gO6 L6 x6) ∧ (Chg [] w w53) ∧ (MS (L6 ++ (M)) w53)) k ?_ ?_
     ·skip
      exact ⟨(0 : Int), H, (ha.sel (by kernel_rfl)), f1, fO6, hC, hM⟩
     ·rintro kk a w53 ⟨x54, H, ha, f1, fO6, hC, hM⟩
      obtain _ | kk := kk
      ·exact nomatch (show none = some _ from H)
      rw [vinerylaw05_LabelPlays.l2] at H
      refine wp_seq_k fun K56 hK56 => ?_
      refine wp_seq_k fun K57 hK57 => ?_
      refine wp_region_lit ?_
      refine seg ha 8 [(2, .slice ao1 a2.length cap1), (8, .pointer (some ⟨gO6, 0, none⟩)), (10, .pointer none), (12, .int .i64 x54), (62, .bool (if (decide (x54 < (a2.length : Int))) = true then (decide (x54 < (100 : Int))) else false))] (by kernel_rfl) fun a ha => ?_
      refine hK57 _ _ ?_; try clear hK57 K57
      refine cnd ha rfl (fun hc58 => ?_) (fun hc58 => ?_)
      ·have H := ite_t hc58 H
       exact nomatch (show none = some _ from H)
      ·have H := ite_f hc58 H
       refine wp_exit ?_
       simp only [Exit.then, Exit.inBlock, ↓reduceIte, Nat.reduceEqDiff]
       obtain rfl := Option.some.inj H
       have o1 : Ok [] (L6 ++ (M)) w53.heap.size := Ok.nil _ _
       have o2 : Ok (M) (L6 ++ (M)) w53.heap.size := (fun _ h => .inl (mr (h)))
       have f1 := f1.chg (Chg.refl [] _) o1 o2
       have fO6 := fO6.chg (Chg.refl [] _) (fun _ _ h => nomatch h)
       have hM : MS (M) w53 := (fun x h => hM.chg (Chg.refl [] _) x (mr (h)))
       have hC := hC.trans (Chg.refl [] _) (Ok.nil _ _)
       exact J53 _ _ (ha.sel (by kernel_rfl)) hC hM
  ·skip
   obtain ⟨rfl, rfl, fO42⟩ := hs42 x42 he42
   have o1 : Ok [] (L6 ++ (M)) w6.heap.size := Ok.nil _ _
   have o2 : Ok (([gO42] ++ blkL none) ++ (L6 ++ (M))) (L6 ++ (M)) w6.heap.size := (Ok.app (fun x h => .inr (ne_i42 x h)) (Ok.refl _ _))
   have f1 := f1.chg hc42 o1 o2
   have fO6 := fO6.chg hc42 (fun _ _ h => nomatch h)
   have p_i42_i6 : ∀ x ∈ ([gO42] ++ blkL none), x ∉ L6 := fun x hx hy => absurd (hM x (ml hy)) (Nat.not_lt.2 (ne_i42 x hx))
   have p_i42_M : ∀ x ∈ ([gO42] ++ blkL none), x ∉ M := fun x hx hy => absurd (hM x (mr (hy))) (Nat.not_lt.2 (ne_i42 x hx))
   have e_i42 : ∀ x ∈ ([gO42] ++ blkL none), w.heap.size ≤ x := fun x hx => Nat.le_trans hC.size (ne_i42 x hx)
   have hM : MS (([gO42] ++ blkL none) ++ (L6 ++ (M))) w42 := (MS.app (fun x h => hMn x (ml h)) (hM.chg hc42))
   have hC := hC.trans hc42 (Ok.nil _ _)
   refine seg ha 5 [(2, .slice ao1 a2.length cap1), (7, .bool t4), (8, .pointer (some ⟨gO6, 0, none⟩)), (9, .int .i64 t6.2), (10, .pointer (some ⟨gO42, 0, none⟩)), (11, .int .i64 t42.2)] (by kernel_rfl) fun a ha => ?_
   refine hK41 _ _ ?_; try clear hK41 K41
   refine wp_seq_k fun K59 hK59 => ?_
   refine wp_seq_k fun K60 hK60 => ?_
   refine wp_region_lit ?_
   refine seg ha 14 [(2, .slice ao1 a2.length cap1), (8, .pointer (some ⟨gO6, 0, none⟩)), (10, .pointer (some ⟨gO42, 0, none⟩)), (11, .int .i64 t42.2), (52, .bool (if (if (!t4) = true then true else (t6.2 != t42.2)) = true then true else (!(false == (t42.2 != (0 : Int))))))] (by kernel_rfl) fun a ha => ?_
   refine hK60 _ _ ?_; try clear hK60 K60
   refine cnd ha rfl (fun hc61 => ?_) (fun hc61 => ?_)
   ·have H := ite_t hc61 H
    refine wp_seq_k fun K62 hK62 => ?_
    refine wp_region_lit ?_
    refine seg ha 1 [(6, .bool false)] (by kernel_rfl) fun a ha => ?_
    refine hK62 _ _ ?_; try clear hK62 K62
    refine wp_ret ?_
    try simp only [Exit.then, Exit.inBlock]
    have hM : MS (M) w42 := (fun x h => hM.chg (Chg.refl [] _) x (mr (mr (h))))
    have hC := hC.trans (Chg.refl [] _) (Ok.nil _ _)
    obtain rfl := Option.some.inj H
    refine rt1 ha rfl rfl ?_
    exact ⟨rfl, hC, hM⟩
   ·have H := ite_f hc61 H
    refine wp_skip ?_
    refine hK59 _ _ ?_; try clear hK59 K59
    refine wp_seq_k fun K63 hK63 => ?_
    refine wp_seq_k fun K64 hK64 => ?_
    refine wp_region_lit ?_
    refine seg ha 2 [(2, .slice ao1 a2.length cap1), (8, .pointer (some ⟨gO6, 0, none⟩)), (10, .pointer (some ⟨gO42, 0, none⟩)), (54, .bool (t42.2 != (0 : Int)))] (by kernel_rfl) fun a ha => ?_
    refine hK64 _ _ ?_; try clear hK64 K64
    refine cnd ha rfl (fun hc65 => ?_) (fun hc65 => ?_)
    ·have H := ite_t hc65 H
     refine wp_seq_k fun K66 hK66 => ?_
     refine wp_region_lit ?_
     refine seg ha 1 [(6, .bool true)] (by kernel_rfl) fun a ha => ?_
     refine hK66 _ _ ?_; try clear hK66 K66
     refine wp_ret ?_
     try simp only [Exit.then, Exit.inBlock]
     have hM : MS (M) w42 := (fun x h => hM.chg (Chg.refl [] _) x (mr (mr (h))))
     have hC := hC.trans (Chg.refl [] _) (Ok.nil _ _)
     obtain rfl := Option.some.inj H
     refine rt1 ha rfl rfl ?_
     exact ⟨rfl, hC, hM⟩
    ·have H := ite_f hc65 H
     refine wp_skip ?_
     refine hK63 _ _ ?_; try clear hK63 K63
     refine wp_seq_k fun K67 hK67 => ?_
     refine wp_seq_k fun K68 hK68 => ?_
     refine wp_region_lit ?_
     refine seg ha 1 [(2, .slice ao1 a2.length cap1), (8, .pointer (some ⟨gO6, 0, none⟩)), (10, .pointer (some ⟨gO42, 0, none⟩)), (12, .int .i64 (0 : Int))] (by kernel_rfl) fun a ha => ?_
     refine hK68 _ _ ?_; try clear hK68 K68
     refine wp_block ?_
     obtain ⟨s69, H69, H⟩ := bind_some H
     have J69 : ∀ s69' (a : Act) (wx69 : World), s69 = .inr s69' → Has a Try.f4.ntmps [] → (Chg [] w wx69) → (MS (M) wx69) → K67 a wx69 := by
      intro s69' a wx69 hs ha hC hM
      subst hs
      refine hK67 _ _ ?_; try clear hK67 K67
      refine wp_seq_k fun K74 hK74 => ?_
      refine wp_region_lit ?_
      refine seg ha 1 [(6, .bool true)] (by kernel_rfl) fun a ha => ?_
      refine hK74 _ _ ?_; try clear hK74 K74
      refine wp_ret ?_
      try simp only [Exit.then, Exit.inBlock]
      obtain rfl := Option.some.inj H
      refine rt1 ha rfl rfl ?_
      exact ⟨rfl, hC, hM⟩
     have Hc69 := H
     have H := H69
     refine wp_loop_ghost (fun kk a w69 => ∃ (x71 : PoolS) (x72 : S_vineryref05_Pool) (x73 : Int) (ao70 : Option Addr) (cap70 : Nat), vinerylaw05_LabelPlays.l3 k a2 kk x71 x72 x73 = some s69 ∧ Has a Try.f4.ntmps [(2, .slice ao1 a2.length cap1), (8, .pointer (some ⟨gO6, 0, none⟩)), (10, .pointer (some ⟨gO42, 0, none⟩)), (12, .int .i64 x73)] ∧ (RSl rS_vinerylaw05_Act 36 w69 (([gO42] ++ blkL ao70) ++ (L6 ++ (M))) ao1 cap1 a2) ∧ (PoolAt w69 gO6 L6 x71) ∧ (RefAt w69 gO42 ao70 x72) ∧ (∀ x ∈ ([gO42] ++ blkL ao70), w.heap.size ≤ x) ∧ (∀ x ∈ ([gO42] ++ blkL ao70), x ∉ L6) ∧ (∀ x ∈ ([gO42] ++ blkL ao70), x ∉ M) ∧ (Chg [] w w69) ∧ (MS (([gO42] ++ blkL ao70) ++ (L6 ++ (M))) w69)) k ?_ ?_
     ·skip
      exact ⟨x6, x42, (0 : Int), none, 0, H, (ha.sel (by kernel_rfl)), f1, fO6, fO42, e_i42, p_i42_i6, p_i42_M, hC, hM⟩
     ·rintro kk a w69 ⟨x71, x72, x73, ao70, cap70, H, ha, f1, fO6, f70, e_i70, p_i70_i6, p_i70_M, hC, hM⟩
      obtain _ | kk := kk
      ·exact nomatch (show none = some _ from H)
      rw [vinerylaw05_LabelPlays.l3] at H
      refine wp_seq_k fun K75 hK75 => ?_
      refine wp_seq_k fun K76 hK76 => ?_
      refine wp_region_lit ?_
      refine seg ha 8 [(2, .slice ao1 a2.length cap1), (8, .pointer (some ⟨gO6, 0, none⟩)), (10, .pointer (some ⟨gO42, 0, none⟩)), (12, .int .i64 x73), (62, .bool (if (decide (x73 < (a2.length : Int))) = true then (decide (x73 < (100 : Int))) else false))] (by kernel_rfl) fun a ha => ?_
      refine hK76 _ _ ?_; try clear hK76 K76
      refine cnd ha rfl (fun hc77 => ?_) (fun hc77 => ?_)
      ·have H := ite_t hc77 H
       refine wp_skip ?_
       refine hK75 _ _ ?_; try clear hK75 K75
       refine wp_seq_k fun K78 hK78 => ?_
       refine wp_block ?_
       refine wp_seq_k fun K79 hK79 => ?_
       refine wp_region_lit ?_
       refine seg ha 2 [(2, .slice ao1 a2.length cap1), (8, .pointer (some ⟨gO6, 0, none⟩)), (10, .pointer (some ⟨gO42, 0, none⟩)), (12, .int .i64 x73), (65, .slice ao1 a2.length cap1), (66, .int .i64 x73)] (by kernel_rfl) fun a ha => ?_
       obtain ⟨⟨hx80, hx80'⟩, H⟩ := ite_some H
       refine ix (r := rS_vinerylaw05_Act) ha (by kernel_rfl) (by kernel_rfl) rfl rfl rfl rfl rfl f1 hx80 hx80' fun a ge81 oe82 cs83 hn86 hR84 hE85 ha => ?_
       rw [rd_get] at hR84
       obtain rfl := rS_vinerylaw05_Act.open hR84
       refine ldA (cs := (cS_vinerylaw05_Act (rd a2 x73))) ha rfl (by kernel_rfl) rfl rfl rfl (cells_sub hE85 (all := (cS_vinerylaw05_Act (rd a2 x73))) [] [] (by kernel_rfl)) fun a ha => ?_
       refine al (cs := (cS_vinerylaw05_Act (⟨(0 : Int), ([] : List UInt8), (0 : Int)⟩ : S_vinerylaw05_Act))) (z := .agg (cS_vinerylaw05_Act (⟨(0 : Int), ([] : List UInt8), (0 : Int)⟩ : S_vinerylaw05_Act)).toArray) ha (fun w => by kernel_rfl) rfl rfl rfl rfl fun a w87 g88 hN89 ha => ?_
       have o1 : Ok [] (([gO42] ++ blkL ao70) ++ (L6 ++ (M))) w69.heap.size := Ok.nil _ _
       have o2 : Ok ([g88] ++ (([gO42] ++ blkL ao70) ++ (L6 ++ (M)))) (([gO42] ++ blkL ao70) ++ (L6 ++ (M))) w69.heap.size := (Ok.app (hN89.ok _) (Ok.refl _ _))
       have f1 := f1.chg hN89.chg o1 o2
       have fO6 := fO6.chg hN89.chg (fun _ _ h => nomatch h)
       have f70 := f70.chg hN89.chg (fun _ _ h => nomatch h)
       have p_i90_i70 : ∀ x ∈ [g88], x ∉ ([gO42] ++ blkL ao70) := fun x hx hy => absurd (hM x (ml hy)) (Nat.not_lt.2 ((hN89.ge1) x hx))
       have p_i90_i6 : ∀ x ∈ [g88], x ∉ L6 := fun x hx hy => absurd (hM x (mr (ml hy))) (Nat.not_lt.2 ((hN89.ge1) x hx))
       have p_i90_M : ∀ x ∈ [g88], x ∉ M := fun x hx hy => absurd (hM x (mr (mr (hy)))) (Nat.not_lt.2 ((hN89.ge1) x hx))
       have e_i90 : ∀ x ∈ [g88], w.heap.size ≤ x := fun x hx => Nat.le_trans hC.size ((hN89.ge1) x hx)
       have hM : MS ([g88] ++ (([gO42] ++ blkL ao70) ++ (L6 ++ (M)))) w87 := (MS.app hN89.ms (hM.chg hN89.chg))
       have hC := hC.trans hN89.chg (Ok.nil _ _)
       have hBg88 : Box w87 g88 (cS_vinerylaw05_Act (⟨(0 : Int), ([] : List UInt8), (0 : Int)⟩ : S_vinerylaw05_Act)) := hN89.box
       refine stA (l := (cS_vinerylaw05_Act (rd a2 x73))) ha rfl rfl rfl (by kernel_rfl) rfl rfl hBg88 rfl fun a w91 ha hb2 hc92 _ => ?_
       have o1 : Ok [g88] ([g88] ++ (([gO42] ++ blkL ao70) ++ (L6 ++ (M)))) w87.heap.size := (fun _ h => .inl (ml h))
       have o2 : Ok ([g88] ++ (([gO42] ++ blkL ao70) ++ (L6 ++ (M)))) ([g88] ++ (([gO42] ++ blkL ao70) ++ (L6 ++ (M)))) w87.heap.size := (Ok.refl _ _)
       have f1 := f1.chg hc92 o1 o2
       have fO6 := fO6.chg hc92 (fun x (hx : x ∈ L6) (hy : x ∈ [g88]) => p_i90_i6 x hy hx)
       have f70 := f70.chg hc92 (fun x (hx : x ∈ ([gO42] ++ blkL ao70)) (hy : x ∈ [g88]) => p_i90_i70 x hy hx)
       have hM : MS ([g88] ++ (([gO42] ++ blkL ao70) ++ (L6 ++ (M)))) w91 := (hM.chg hc92)
       have hC := hC.trans hc92 (fun x h => .inr (e_i90 x h))
       have hBg88 : Box w91 g88 (cS_vinerylaw05_Act (rd a2 x73)) := hb2
       refine hK79 _ _ ?_; try clear hK79 K79
       refine wp_seq_k fun K93 hK93 => ?_
       refine wp_seq_k fun K94 hK94 => ?_
       refine wp_region_lit ?_
       refine seg ha 1 [(2, .slice ao1 a2.length cap1), (8, .pointer (some ⟨gO6, 0, none⟩)), (10, .pointer (some ⟨gO42, 0, none⟩)), (12, .int .i64 x73), (13, .pointer (some ⟨g88, 0, none⟩)), (69, .pointer (some ⟨g88, 0, none⟩))] (by kernel_rfl) fun a ha => ?_
       refine ld (v := .int .i64 ((rd a2 x73).Do)) ha rfl (by kernel_rfl) rfl rfl rfl (hBg88.cell' (o := 0) rfl (by kernel_rfl)) fun a ha => ?_
       refine hK94 _ _ ?_; try clear hK94 K94
       refine wp_block ?_
       refine wp_seq_k fun K95 hK95 => ?_
       refine wp_region_lit ?_
       refine seg ha 2 [(2, .slice ao1 a2.length cap1), (8, .pointer (some ⟨gO6, 0, none⟩)), (10, .pointer (some ⟨gO42, 0, none⟩)), (12, .int .i64 x73), (13, .pointer (some ⟨g88, 0, none⟩)), (70, .int .i64 ((rd a2 x73).Do)), (71, .bool (((rd a2 x73).Do) == (0 : Int)))] (by kernel_rfl) fun a ha => ?_
       refine hK95 _ _ ?_; try clear hK95 K95
       refine cnd ha rfl (fun hc96 => ?_) (fun hc96 => ?_)
       ·have H := ite_t hc96 H
        refine wp_seq_k fun K97 hK97 => ?_
        refine wp_region_lit ?_
        refine seg ha 2 [(2, .slice ao1 a2.length cap1), (8, .pointer (some ⟨gO6, 0, none⟩)), (10, .pointer (some ⟨gO42, 0, none⟩)), (12, .int .i64 x73), (13, .pointer (some ⟨g88, 0, none⟩)), (74, .pointer (some ⟨gO6, 0, none⟩)), (75, .pointer (some ⟨g88, 1, none⟩))] (by kernel_rfl) fun a ha => ?_
        refine ld (v := .string (bstr ((rd a2 x73).S))) ha rfl (by kernel_rfl) rfl rfl rfl (hBg88.cell' (o := 1) rfl (by kernel_rfl)) fun a ha => ?_
        obtain ⟨t98, H98, H⟩ := bind_some H
        refine cl ha (by rfl) (by kernel_rfl) (by rfl) (by rfl) (by rfl) (Pool_Take.walk w91 _ hM gO6 L6 x71 fO6 (fun _ h => mr (mr (ml h))) ((rd a2 x73).S) k _ H98) ?_
        rintro _ w98 ⟨rfl, nf98, hc98, hMn⟩ a ha
        have o1 : Ok L6 ([g88] ++ (([gO42] ++ blkL ao70) ++ (L6 ++ (M)))) w91.heap.size := (fun _ h => .inl (mr (mr (ml h))))
        have o2 : Ok ([g88] ++ (([gO42] ++ blkL ao70) ++ (L6 ++ (M)))) ([g88] ++ (([gO42] ++ blkL ao70) ++ (L6 ++ (M)))) w91.heap.size := (Ok.refl _ _)
        have f1 := f1.chg hc98 o1 o2
        have hBg88 := hBg88.chg hc98 (p_i90_i6 g88 (by simp))
        have f70 := f70.chg hc98 p_i70_i6
        have hM : MS ([g88] ++ (([gO42] ++ blkL ao70) ++ (L6 ++ (M)))) w98 := (hM.chg hc98)
        have hC := hC.trans hc98 (fun x h => .inr (e_i6 x h))
        have fO6 := nf98
        refine seg ha 5 [(2, .slice ao1 a2.length cap1), (8, .pointer (some ⟨gO6, 0, none⟩)), (10, .pointer (some ⟨gO42, 0, none⟩)), (12, .int .i64 x73), (13, .pointer (some ⟨g88, 0, none⟩)), (14, .int .i64 t98.1), (15, .int .i64 t98.2.1)] (by kernel_rfl) fun a ha => ?_
        refine hK97 _ _ ?_; try clear hK97 K97
        refine wp_seq_k fun K99 hK99 => ?_
        refine wp_region_lit ?_
        refine seg ha 2 [(2, .slice ao1 a2.length cap1), (8, .pointer (some ⟨gO6, 0, none⟩)), (10, .pointer (some ⟨gO42, 0, none⟩)), (12, .int .i64 x73), (14, .int .i64 t98.1), (15, .int .i64 t98.2.1), (81, .pointer (some ⟨gO42, 0, none⟩)), (82, .pointer (some ⟨g88, 1, none⟩))] (by kernel_rfl) fun a ha => ?_
        refine ld (v := .string (bstr ((rd a2 x73).S))) ha rfl (by kernel_rfl) rfl rfl rfl (hBg88.cell' (o := 1) rfl (by kernel_rfl)) fun a ha => ?_
        obtain ⟨t100, H100, H⟩ := bind_some H
        refine cl ha (by rfl) (by kernel_rfl) (by rfl) (by rfl) (by rfl) (Ref_Take.walk w98 _ hM gO42 ao70 x72 f70 (fun _ h => mr (ml h)) ((rd a2 x73).S) k _ H100) ?_
        rintro _ w100 ⟨ao100, rfl, nf100, hc100, hk100, hl100⟩ a ha
        have o1 : Ok ([gO42] ++ blkL ao70) ([g88] ++ (([gO42] ++ blkL ao70) ++ (L6 ++ (M)))) w98.heap.size := (fun _ h => .inl (mr (ml h)))
        have o2 : Ok (([gO42] ++ blkL ao100) ++ ([g88] ++ (L6 ++ (M)))) ([g88] ++ (([gO42] ++ blkL ao70) ++ (L6 ++ (M)))) w98.heap.size := (Ok.app (Ok.to hk100 (fun _ h => mr (ml h))) (Ok.app (fun _ h => .inl (ml h)) (fun _ h => .inl (mr (mr (h))))))
        have f1 := f1.chg hc100 o1 o2
        have hBg88 := hBg88.chg hc100 (p_i90_i70 g88 (by simp))
        have fO6 := fO6.chg hc100 (fun x (hx : x ∈ L6) (hy : x ∈ ([gO42] ++ blkL ao70)) => p_i70_i6 x hy hx)
        have p_i100_i90 : ∀ x ∈ ([gO42] ++ blkL ao100), x ∉ ([g88]) := fun x hx hy => (hk100 x hx).elim (fun h => (fun x hx hy => p_i90_i70 x hy hx) x h hy) (fun h => absurd (hM x (ml hy)) (Nat.not_lt.2 h))
        have p_i100_i6 : ∀ x ∈ ([gO42] ++ blkL ao100), x ∉ L6 := fun x hx hy => (hk100 x hx).elim (fun h => p_i70_i6 x h hy) (fun h => absurd (hM x (mr (mr (ml hy)))) (Nat.not_lt.2 h))
        have p_i100_M : ∀ x ∈ ([gO42] ++ blkL ao100), x ∉ M := fun x hx hy => (hk100 x hx).elim (fun h => p_i70_M x h hy) (fun h => absurd (hM x (mr (mr (mr (hy))))) (Nat.not_lt.2 h))
        have e_i100 : ∀ x ∈ ([gO42] ++ blkL ao100), w.heap.size ≤ x := fun x hx => (hk100 x hx).elim (e_i70 x) (Nat.le_trans hC.size)
        have hM : MS (([gO42] ++ blkL ao100) ++ ([g88] ++ (L6 ++ (M)))) w100 := (MS.app (fun x h => hl100 x (ml h)) (MS.app (fun x h => hM.chg hc100 x (ml h)) (fun x h => hM.chg hc100 x (mr (mr (h))))))
        have hC := hC.trans hc100 (fun x h => .inr (e_i70 x h))
        have fO100 := nf100
        refine seg ha 5 [(2, .slice ao1 a2.length cap1), (8, .pointer (some ⟨gO6, 0, none⟩)), (10, .pointer (some ⟨gO42, 0, none⟩)), (12, .int .i64 x73), (14, .int .i64 t98.1), (15, .int .i64 t98.2.1), (16, .int .i64 t100.1), (17, .int .i64 t100.2.1)] (by kernel_rfl) fun a ha => ?_
        refine hK99 _ _ ?_; try clear hK99 K99
        refine wp_seq_k fun K101 hK101 => ?_
        refine wp_region_lit ?_
        refine seg ha 8 [(2, .slice ao1 a2.length cap1), (8, .pointer (some ⟨gO6, 0, none⟩)), (10, .pointer (some ⟨gO42, 0, none⟩)), (12, .int .i64 x73), (94, .bool (if (t98.1 != t100.1) = true then true else (t98.2.1 != t100.2.1)))] (by kernel_rfl) fun a ha => ?_
        refine hK101 _ _ ?_; try clear hK101 K101
        refine cnd ha rfl (fun hc102 => ?_) (fun hc102 => ?_)
        ·have H := ite_t hc102 H
         refine wp_seq_k fun K103 hK103 => ?_
         refine wp_region_lit ?_
         refine seg ha 1 [(6, .bool false)] (by kernel_rfl) fun a ha => ?_
         refine hK103 _ _ ?_; try clear hK103 K103
         refine wp_ret ?_
         try simp only [Exit.then, Exit.inBlock]
         have hBg88 := hBg88.chg (Chg.refl [] _) (fun h => nomatch h)
         have hM : MS (M) w100 := (fun x h => hM.chg (Chg.refl [] _) x (mr (mr (mr (h)))))
         have hC := hC.trans (Chg.refl [] _) (Ok.nil _ _)
         obtain rfl := Option.some.inj H
         have H := (show some _ = some _ from Hc69)
         obtain rfl := Option.some.inj H
         refine rt1 ha rfl rfl ?_
         exact ⟨rfl, hC, hM⟩
        ·have H := ite_f hc102 H
         refine wp_skip ?_
         refine hK93 _ _ ?_; try clear hK93 K93
         refine wp_seq_k fun K104 hK104 => ?_
         refine wp_region_lit ?_
         refine seg ha 1 [(2, .slice ao1 a2.length cap1), (8, .pointer (some ⟨gO6, 0, none⟩)), (10, .pointer (some ⟨gO42, 0, none⟩)), (12, .int .i64 x73), (160, .pointer (some ⟨gO6, 0, none⟩))] (by kernel_rfl) fun a ha => ?_
         obtain ⟨t105, H105, H⟩ := bind_some H
         refine cl ha (by rfl) (by kernel_rfl) (by rfl) (by rfl) (by rfl) (Pool_Count.walk w100 _ hM gO6 L6 t98.2.2 fO6 (fun _ h => mr (mr (ml h))) _ H105) ?_
         rintro _ w105 ⟨rfl, hc105, hMn⟩ a ha
         have o1 : Ok [] (([gO42] ++ blkL ao100) ++ ([g88] ++ (L6 ++ (M)))) w100.heap.size := Ok.nil _ _
         have o2 : Ok (([gO42] ++ blkL ao100) ++ ([g88] ++ (L6 ++ (M)))) (([gO42] ++ blkL ao100) ++ ([g88] ++ (L6 ++ (M)))) w100.heap.size := (Ok.refl _ _)
         have f1 := f1.chg hc105 o1 o2
         have hBg88 := hBg88.chg hc105 (fun h => nomatch h)
         have fO6 := fO6.chg hc105 (fun _ _ h => nomatch h)
         have fO100 := fO100.chg hc105 (fun _ _ h => nomatch h)
         have hM : MS (([gO42] ++ blkL ao100) ++ ([g88] ++ (L6 ++ (M)))) w105 := (hM.chg hc105)
         have hC := hC.trans hc105 (Ok.nil _ _)
         refine seg ha 1 [(2, .slice ao1 a2.length cap1), (8, .pointer (some ⟨gO6, 0, none⟩)), (10, .pointer (some ⟨gO42, 0, none⟩)), (12, .int .i64 x73), (161, .int .i64 t105), (162, .pointer (some ⟨gO42, 0, none⟩))] (by kernel_rfl) fun a ha => ?_
         obtain ⟨t106, H106, H⟩ := bind_some H
         refine cl ha (by rfl) (by kernel_rfl) (by rfl) (by rfl) (by rfl) (Ref_Count.walk w105 _ hM gO42 ao100 t100.2.2 fO100 (fun _ h => ml h) k _ H106) ?_
         rintro _ w106 ⟨rfl, hc106, hMn⟩ a ha
         have o1 : Ok [] (([gO42] ++ blkL ao100) ++ ([g88] ++ (L6 ++ (M)))) w105.heap.size := Ok.nil _ _
         have o2 : Ok (([gO42] ++ blkL ao100) ++ ([g88] ++ (L6 ++ (M)))) (([gO42] ++ blkL ao100) ++ ([g88] ++ (L6 ++ (M)))) w105.heap.size := (Ok.refl _ _)
         have f1 := f1.chg hc106 o1 o2
         have hBg88 := hBg88.chg hc106 (fun h => nomatch h)
         have fO6 := fO6.chg hc106 (fun _ _ h => nomatch h)
         have fO100 := fO100.chg hc106 (fun _ _ h => nomatch h)
         have hM : MS (([gO42] ++ blkL ao100) ++ ([g88] ++ (L6 ++ (M)))) w106 := (hM.chg hc106)
         have hC := hC.trans hc106 (Ok.nil _ _)
         refine seg ha 1 [(2, .slice ao1 a2.length cap1), (8, .pointer (some ⟨gO6, 0, none⟩)), (10, .pointer (some ⟨gO42, 0, none⟩)), (12, .int .i64 x73), (164, .bool (t105 != t106))] (by kernel_rfl) fun a ha => ?_
         refine hK104 _ _ ?_; try clear hK104 K104
         refine cnd ha rfl (fun hc107 => ?_) (fun hc107 => ?_)
         ·have H := ite_t hc107 H
          refine wp_seq_k fun K108 hK108 => ?_
          refine wp_region_lit ?_
          refine seg ha 1 [(6, .bool false)] (by kernel_rfl) fun a ha => ?_
          refine hK108 _ _ ?_; try clear hK108 K108
          refine wp_ret ?_
          try simp only [Exit.then, Exit.inBlock]
          have hBg88 := hBg88.chg (Chg.refl [] _) (fun h => nomatch h)
          have hM : MS (M) w106 := (fun x h => hM.chg (Chg.refl [] _) x (mr (mr (mr (h)))))
          have hC := hC.trans (Chg.refl [] _) (Ok.nil _ _)
          obtain rfl := Option.some.inj H
          have H := (show some _ = some _ from Hc69)
          obtain rfl := Option.some.inj H
          refine rt1 ha rfl rfl ?_
          exact ⟨rfl, hC, hM⟩
         ·have H := ite_f hc107 H
          refine wp_skip ?_
          refine hK78 _ _ ?_; try clear hK78 K78
          refine wp_region_lit ?_
          refine seg ha 3 [(2, .slice ao1 a2.length cap1), (8, .pointer (some ⟨gO6, 0, none⟩)), (10, .pointer (some ⟨gO42, 0, none⟩)), (12, .int .i64 (IntKind.i64.wrap (x73 + (1 : Int))))] (by kernel_rfl) fun a ha => ?_
          have o1 : Ok [] (([gO42] ++ blkL ao100) ++ ([g88] ++ (L6 ++ (M)))) w106.heap.size := Ok.nil _ _
          have o2 : Ok (([gO42] ++ blkL ao100) ++ (L6 ++ (M))) (([gO42] ++ blkL ao100) ++ ([g88] ++ (L6 ++ (M)))) w106.heap.size := (Ok.app (fun _ h => .inl (ml h)) (fun _ h => .inl (mr (mr (h)))))
          have f1 := f1.chg (Chg.refl [] _) o1 o2
          have hBg88 := hBg88.chg (Chg.refl [] _) (fun h => nomatch h)
          have fO6 := fO6.chg (Chg.refl [] _) (fun _ _ h => nomatch h)
          have fO100 := fO100.chg (Chg.refl [] _) (fun _ _ h => nomatch h)
          have hM : MS (([gO42] ++ blkL ao100) ++ (L6 ++ (M))) w106 := (MS.app (fun x h => hM.chg (Chg.refl [] _) x (ml h)) (fun x h => hM.chg (Chg.refl [] _) x (mr (mr (h)))))
          have hC := hC.trans (Chg.refl [] _) (Ok.nil _ _)
          exact ⟨kk, Nat.lt_succ_self _, ⟨t98.2.2, t100.2.2, IntKind.i64.wrap (x73 + (1 : Int)), ao100, cap70, H, (ha.sel (by kernel_rfl)), f1, fO6, fO100, e_i100, p_i100_i6, p_i100_M, hC, hM⟩⟩
       ·have H := ite_f hc96 H
        refine wp_seq_k fun K109 hK109 => ?_
        refine wp_region_lit ?_
        refine seg ha 2 [(2, .slice ao1 a2.length cap1), (8, .pointer (some ⟨gO6, 0, none⟩)), (10, .pointer (some ⟨gO42, 0, none⟩)), (12, .int .i64 x73), (13, .pointer (some ⟨g88, 0, none⟩)), (70, .int .i64 ((rd a2 x73).Do)), (95, .bool (((rd a2 x73).Do) == (1 : Int)))] (by kernel_rfl) fun a ha => ?_
        refine hK109 _ _ ?_; try clear hK109 K109
        refine cnd ha rfl (fun hc110 => ?_) (fun hc110 => ?_)
        ·have H := ite_t hc110 H
         refine wp_seq_k fun K111 hK111 => ?_
         have okS : Ok (L6 ++ ([gO42] ++ blkL ao70)) ([g88] ++ (([gO42] ++ blkL ao70) ++ (L6 ++ (M)))) w91.heap.size := (Ok.app (fun _ h => .inl (mr (mr (ml h)))) (fun _ h => .inl (mr (ml h))))
         have z_f1 := f1
         have z_hBg88 := hBg88
         refine drw (fun w' => Chg (L6 ++ ([gO42] ++ blkL ao70)) w91 w') (by kernel_rfl) fun w112 hc113 _ => ?_
         have hS : Chg (L6 ++ ([gO42] ++ blkL ao70)) w91 w112 := (Chg.refl (L6 ++ ([gO42] ++ blkL ao70)) _).trans hc113 (Ok.nil _ _)
         have o1 : Ok [] ([g88] ++ (([gO42] ++ blkL ao70) ++ (L6 ++ (M)))) w91.heap.size := Ok.nil _ _
         have o2 : Ok ([g88] ++ (([gO42] ++ blkL ao70) ++ (L6 ++ (M)))) ([g88] ++ (([gO42] ++ blkL ao70) ++ (L6 ++ (M)))) w91.heap.size := (Ok.refl _ _)
         have f1 := f1.chg hc113 o1 o2
         have hBg88 := hBg88.chg hc113 (fun h => nomatch h)
         have fO6 := fO6.chg hc113 (fun _ _ h => nomatch h)
         have f70 := f70.chg hc113 (fun _ _ h => nomatch h)
         have hM : MS ([g88] ++ (([gO42] ++ blkL ao70) ++ (L6 ++ (M)))) w112 := (hM.chg hc113)
         have hC := hC.trans hc113 (Ok.nil _ _)
         refine tkpz 0 0 (.pointer (some ⟨gO6, 0, none⟩)) ha (s := hS) (q := fun a ha => ?_)
         refine tkpz 1 0 (.pointer (some ⟨g88, 1, none⟩)) ha (s := hS) (q := fun a ha => ?_)
         refine tkz 2 ha (v := .string (bstr ((rd a2 x73).S))) (y := fun w' hs => ld_run ha rfl (by kernel_rfl) ((Box.chg z_hBg88 hs ((fun x (hx : x ∈ [g88]) (hy : x ∈ L6 ++ ([gO42] ++ blkL ao70)) => (List.mem_append.1 hy).elim (fun hy => p_i90_i6 x hx hy) (fun hy => p_i90_i70 x hx hy)) g88 (by simp))).cell' (o := 1) rfl (by kernel_rfl))) (s := hS) (q := fun a ha => ?_)
         refine tkpz 4 0 (.pointer (some ⟨gO42, 0, none⟩)) ha (s := hS) (q := fun a ha => ?_)
         refine tkpz 5 0 (.pointer (some ⟨g88, 1, none⟩)) ha (s := hS) (q := fun a ha => ?_)
         refine tkz 6 ha (v := .string (bstr ((rd a2 x73).S))) (y := fun w' hs => ld_run ha rfl (by kernel_rfl) ((Box.chg z_hBg88 hs ((fun x (hx : x ∈ [g88]) (hy : x ∈ L6 ++ ([gO42] ++ blkL ao70)) => (List.mem_append.1 hy).elim (fun hy => p_i90_i6 x hx hy) (fun hy => p_i90_i70 x hx hy)) g88 (by simp))).cell' (o := 1) rfl (by kernel_rfl))) (s := hS) (q := fun a ha => ?_)
         refine ac 3 (by kernel_rfl) (by rfl) fun K114 hK114 => ?_
         obtain ⟨t115, H115, H⟩ := bind_some H
         refine cl ha (by rfl) (by kernel_rfl) (by rfl) (by rfl) (by rfl) (Pool_Free.walk w112 _ hM gO6 L6 x71 fO6 (fun _ h => mr (mr (ml h))) ((rd a2 x73).S) _ H115) ?_
         rintro _ w115 ⟨rfl, nf115, hc115, hMn⟩ a ha
         have o1 : Ok L6 ([g88] ++ (([gO42] ++ blkL ao70) ++ (L6 ++ (M)))) w112.heap.size := (fun _ h => .inl (mr (mr (ml h))))
         have o2 : Ok ([g88] ++ (([gO42] ++ blkL ao70) ++ (L6 ++ (M)))) ([g88] ++ (([gO42] ++ blkL ao70) ++ (L6 ++ (M)))) w112.heap.size := (Ok.refl _ _)
         have f1 := f1.chg hc115 o1 o2
         have hBg88 := hBg88.chg hc115 (p_i90_i6 g88 (by simp))
         have f70 := f70.chg hc115 p_i70_i6
         have hM : MS ([g88] ++ (([gO42] ++ blkL ao70) ++ (L6 ++ (M)))) w115 := (hM.chg hc115)
         have hC := hC.trans hc115 (fun x h => .inr (e_i6 x h))
         have hS := hS.trans hc115 (fun x h => .inl ((List.mem_append_left _ h)))
         have fO6 := nf115
         refine ae hK114 hS ?_; clear hK114 K114
         refine ac 7 (by kernel_rfl) (by rfl) fun K116 hK116 => ?_
         obtain ⟨t117, H117, H⟩ := bind_some H
         refine cl ha (by rfl) (by kernel_rfl) (by rfl) (by rfl) (by rfl) (Ref_Free.walk w115 _ hM gO42 ao70 x72 f70 (fun _ h => mr (ml h)) ((rd a2 x73).S) k _ H117) ?_
         rintro _ w117 ⟨ao117, rfl, nf117, hc117, hk117, hl117⟩ a ha
         have o1 : Ok ([gO42] ++ blkL ao70) ([g88] ++ (([gO42] ++ blkL ao70) ++ (L6 ++ (M)))) w115.heap.size := (fun _ h => .inl (mr (ml h)))
         have o2 : Ok (([gO42] ++ blkL ao117) ++ ([g88] ++ (L6 ++ (M)))) ([g88] ++ (([gO42] ++ blkL ao70) ++ (L6 ++ (M)))) w115.heap.size := (Ok.app (Ok.to hk117 (fun _ h => mr (ml h))) (Ok.app (fun _ h => .inl (ml h)) (fun _ h => .inl (mr (mr (h))))))
         have f1 := f1.chg hc117 o1 o2
         have hBg88 := hBg88.chg hc117 (p_i90_i70 g88 (by simp))
         have fO6 := fO6.chg hc117 (fun x (hx : x ∈ L6) (hy : x ∈ ([gO42] ++ blkL ao70)) => p_i70_i6 x hy hx)
         have p_iD000117_i90 : ∀ x ∈ ([gO42] ++ blkL ao117), x ∉ ([g88]) := fun x hx hy => (hk117 x hx).elim (fun h => (fun x hx hy => p_i90_i70 x hy hx) x h hy) (fun h => absurd (hM x (ml hy)) (Nat.not_lt.2 h))
         have p_iD000117_i6 : ∀ x ∈ ([gO42] ++ blkL ao117), x ∉ L6 := fun x hx hy => (hk117 x hx).elim (fun h => p_i70_i6 x h hy) (fun h => absurd (hM x (mr (mr (ml hy)))) (Nat.not_lt.2 h))
         have p_iD000117_M : ∀ x ∈ ([gO42] ++ blkL ao117), x ∉ M := fun x hx hy => (hk117 x hx).elim (fun h => p_i70_M x h hy) (fun h => absurd (hM x (mr (mr (mr (hy))))) (Nat.not_lt.2 h))
         have e_iD000117 : ∀ x ∈ ([gO42] ++ blkL ao117), w.heap.size ≤ x := fun x hx => (hk117 x hx).elim (e_i70 x) (Nat.le_trans hC.size)
         have hM : MS (([gO42] ++ blkL ao117) ++ ([g88] ++ (L6 ++ (M)))) w117 := (MS.app (fun x h => hl117 x (ml h)) (MS.app (fun x h => hM.chg hc117 x (ml h)) (fun x h => hM.chg hc117 x (mr (mr (h))))))
         have hC := hC.trans hc117 (fun x h => .inr (e_i70 x h))
         have d_iD000117 : Ok ([gO42] ++ blkL ao117) (L6 ++ ([gO42] ++ blkL ao70)) w91.heap.size := fun x hx => (hk117 x hx).elim (fun h => .inl ((List.mem_append_right _ h))) (fun h => .inr (Nat.le_trans hS.size h))
         have hS := hS.trans hc117 (fun x h => .inl ((List.mem_append_right _ h)))
         have fO117 := nf117
         refine ae hK116 hS ?_; clear hK116 K116
         refine tkpz 8 0 (.bool (!(t115.1 == t117.1))) ha (s := hS) (q := fun a ha => ?_)
         refine dn (by kernel_rfl) ?_
         refine hK111 _ _ ?_; try clear hK111 K111
         refine cnd ha rfl (fun hc118 => ?_) (fun hc118 => ?_)
         ·have H := ite_t hc118 H
          refine wp_seq_k fun K119 hK119 => ?_
          refine wp_region_lit ?_
          refine seg ha 1 [(6, .bool false)] (by kernel_rfl) fun a ha => ?_
          refine hK119 _ _ ?_; try clear hK119 K119
          refine wp_ret ?_
          try simp only [Exit.then, Exit.inBlock]
          have hBg88 := hBg88.chg (Chg.refl [] _) (fun h => nomatch h)
          have hM : MS (M) w117 := (fun x h => hM.chg (Chg.refl [] _) x (mr (mr (mr (h)))))
          have hC := hC.trans (Chg.refl [] _) (Ok.nil _ _)
          obtain rfl := Option.some.inj H
          have H := (show some _ = some _ from Hc69)
          obtain rfl := Option.some.inj H
          refine rt1 ha rfl rfl ?_
          exact ⟨rfl, hC, hM⟩
         ·have H := ite_f hc118 H
          refine wp_skip ?_
          refine hK93 _ _ ?_; try clear hK93 K93
          refine wp_seq_k fun K120 hK120 => ?_
          refine wp_region_lit ?_
          refine seg ha 1 [(2, .slice ao1 a2.length cap1), (8, .pointer (some ⟨gO6, 0, none⟩)), (10, .pointer (some ⟨gO42, 0, none⟩)), (12, .int .i64 x73), (160, .pointer (some ⟨gO6, 0, none⟩))] (by kernel_rfl) fun a ha => ?_
          obtain ⟨t121, H121, H⟩ := bind_some H
          refine cl ha (by rfl) (by kernel_rfl) (by rfl) (by rfl) (by rfl) (Pool_Count.walk w117 _ hM gO6 L6 t115.2 fO6 (fun _ h => mr (mr (ml h))) _ H121) ?_
          rintro _ w121 ⟨rfl, hc121, hMn⟩ a ha
          have o1 : Ok [] (([gO42] ++ blkL ao117) ++ ([g88] ++ (L6 ++ (M)))) w117.heap.size := Ok.nil _ _
          have o2 : Ok (([gO42] ++ blkL ao117) ++ ([g88] ++ (L6 ++ (M)))) (([gO42] ++ blkL ao117) ++ ([g88] ++ (L6 ++ (M)))) w117.heap.size := (Ok.refl _ _)
          have f1 := f1.chg hc121 o1 o2
          have hBg88 := hBg88.chg hc121 (fun h => nomatch h)
          have fO6 := fO6.chg hc121 (fun _ _ h => nomatch h)
          have fO117 := fO117.chg hc121 (fun _ _ h => nomatch h)
          have hM : MS (([gO42] ++ blkL ao117) ++ ([g88] ++ (L6 ++ (M)))) w121 := (hM.chg hc121)
          have hC := hC.trans hc121 (Ok.nil _ _)
          refine seg ha 1 [(2, .slice ao1 a2.length cap1), (8, .pointer (some ⟨gO6, 0, none⟩)), (10, .pointer (some ⟨gO42, 0, none⟩)), (12, .int .i64 x73), (161, .int .i64 t121), (162, .pointer (some ⟨gO42, 0, none⟩))] (by kernel_rfl) fun a ha => ?_
          obtain ⟨t122, H122, H⟩ := bind_some H
          refine cl ha (by rfl) (by kernel_rfl) (by rfl) (by rfl) (by rfl) (Ref_Count.walk w121 _ hM gO42 ao117 t117.2 fO117 (fun _ h => ml h) k _ H122) ?_
          rintro _ w122 ⟨rfl, hc122, hMn⟩ a ha
          have o1 : Ok [] (([gO42] ++ blkL ao117) ++ ([g88] ++ (L6 ++ (M)))) w121.heap.size := Ok.nil _ _
          have o2 : Ok (([gO42] ++ blkL ao117) ++ ([g88] ++ (L6 ++ (M)))) (([gO42] ++ blkL ao117) ++ ([g88] ++ (L6 ++ (M)))) w121.heap.size := (Ok.refl _ _)
          have f1 := f1.chg hc122 o1 o2
          have hBg88 := hBg88.chg hc122 (fun h => nomatch h)
          have fO6 := fO6.chg hc122 (fun _ _ h => nomatch h)
          have fO117 := fO117.chg hc122 (fun _ _ h => nomatch h)
          have hM : MS (([gO42] ++ blkL ao117) ++ ([g88] ++ (L6 ++ (M)))) w122 := (hM.chg hc122)
          have hC := hC.trans hc122 (Ok.nil _ _)
          refine seg ha 1 [(2, .slice ao1 a2.length cap1), (8, .pointer (some ⟨gO6, 0, none⟩)), (10, .pointer (some ⟨gO42, 0, none⟩)), (12, .int .i64 x73), (164, .bool (t121 != t122))] (by kernel_rfl) fun a ha => ?_
          refine hK120 _ _ ?_; try clear hK120 K120
          refine cnd ha rfl (fun hc123 => ?_) (fun hc123 => ?_)
          ·have H := ite_t hc123 H
           refine wp_seq_k fun K124 hK124 => ?_
           refine wp_region_lit ?_
           refine seg ha 1 [(6, .bool false)] (by kernel_rfl) fun a ha => ?_
           refine hK124 _ _ ?_; try clear hK124 K124
           refine wp_ret ?_
           try simp only [Exit.then, Exit.inBlock]
           have hBg88 := hBg88.chg (Chg.refl [] _) (fun h => nomatch h)
           have hM : MS (M) w122 := (fun x h => hM.chg (Chg.refl [] _) x (mr (mr (mr (h)))))
           have hC := hC.trans (Chg.refl [] _) (Ok.nil _ _)
           obtain rfl := Option.some.inj H
           have H := (show some _ = some _ from Hc69)
           obtain rfl := Option.some.inj H
           refine rt1 ha rfl rfl ?_
           exact ⟨rfl, hC, hM⟩
          ·have H := ite_f hc123 H
           refine wp_skip ?_
           refine hK78 _ _ ?_; try clear hK78 K78
           refine wp_region_lit ?_
           refine seg ha 3 [(2, .slice ao1 a2.length cap1), (8, .pointer (some ⟨gO6, 0, none⟩)), (10, .pointer (some ⟨gO42, 0, none⟩)), (12, .int .i64 (IntKind.i64.wrap (x73 + (1 : Int))))] (by kernel_rfl) fun a ha => ?_
           have o1 : Ok [] (([gO42] ++ blkL ao117) ++ ([g88] ++ (L6 ++ (M)))) w122.heap.size := Ok.nil _ _
           have o2 : Ok (([gO42] ++ blkL ao117) ++ (L6 ++ (M))) (([gO42] ++ blkL ao117) ++ ([g88] ++ (L6 ++ (M)))) w122.heap.size := (Ok.app (fun _ h => .inl (ml h)) (fun _ h => .inl (mr (mr (h)))))
           have f1 := f1.chg (Chg.refl [] _) o1 o2
           have hBg88 := hBg88.chg (Chg.refl [] _) (fun h => nomatch h)
           have fO6 := fO6.chg (Chg.refl [] _) (fun _ _ h => nomatch h)
           have fO117 := fO117.chg (Chg.refl [] _) (fun _ _ h => nomatch h)
           have hM : MS (([gO42] ++ blkL ao117) ++ (L6 ++ (M))) w122 := (MS.app (fun x h => hM.chg (Chg.refl [] _) x (ml h)) (fun x h => hM.chg (Chg.refl [] _) x (mr (mr (h)))))
           have hC := hC.trans (Chg.refl [] _) (Ok.nil _ _)
           exact ⟨kk, Nat.lt_succ_self _, ⟨t115.2, t117.2, IntKind.i64.wrap (x73 + (1 : Int)), ao117, cap70, H, (ha.sel (by kernel_rfl)), f1, fO6, fO117, e_iD000117, p_iD000117_i6, p_iD000117_M, hC, hM⟩⟩
        ·have H := ite_f hc110 H
         refine wp_seq_k fun K125 hK125 => ?_
         refine wp_region_lit ?_
         refine seg ha 2 [(2, .slice ao1 a2.length cap1), (8, .pointer (some ⟨gO6, 0, none⟩)), (10, .pointer (some ⟨gO42, 0, none⟩)), (12, .int .i64 x73), (13, .pointer (some ⟨g88, 0, none⟩)), (70, .int .i64 ((rd a2 x73).Do)), (106, .bool (((rd a2 x73).Do) == (2 : Int)))] (by kernel_rfl) fun a ha => ?_
         refine hK125 _ _ ?_; try clear hK125 K125
         refine cnd ha rfl (fun hc126 => ?_) (fun hc126 => ?_)
         ·have H := ite_t hc126 H
          refine wp_seq_k fun K127 hK127 => ?_
          refine wp_region_lit ?_
          refine seg ha 2 [(2, .slice ao1 a2.length cap1), (8, .pointer (some ⟨gO6, 0, none⟩)), (10, .pointer (some ⟨gO42, 0, none⟩)), (12, .int .i64 x73), (13, .pointer (some ⟨g88, 0, none⟩)), (109, .pointer (some ⟨gO6, 0, none⟩)), (110, .pointer (some ⟨g88, 1, none⟩))] (by kernel_rfl) fun a ha => ?_
          refine ld (v := .string (bstr ((rd a2 x73).S))) ha rfl (by kernel_rfl) rfl rfl rfl (hBg88.cell' (o := 1) rfl (by kernel_rfl)) fun a ha => ?_
          obtain ⟨t128, H128, H⟩ := bind_some H
          refine cl ha (by rfl) (by kernel_rfl) (by rfl) (by rfl) (by rfl) (Pool_Of.walk w91 _ hM gO6 L6 x71 fO6 (fun _ h => mr (mr (ml h))) ((rd a2 x73).S) _ H128) ?_
          rintro _ w128 ⟨rfl, hc128, hMn⟩ a ha
          have o1 : Ok [] ([g88] ++ (([gO42] ++ blkL ao70) ++ (L6 ++ (M)))) w91.heap.size := Ok.nil _ _
          have o2 : Ok ([g88] ++ (([gO42] ++ blkL ao70) ++ (L6 ++ (M)))) ([g88] ++ (([gO42] ++ blkL ao70) ++ (L6 ++ (M)))) w91.heap.size := (Ok.refl _ _)
          have f1 := f1.chg hc128 o1 o2
          have hBg88 := hBg88.chg hc128 (fun h => nomatch h)
          have fO6 := fO6.chg hc128 (fun _ _ h => nomatch h)
          have f70 := f70.chg hc128 (fun _ _ h => nomatch h)
          have hM : MS ([g88] ++ (([gO42] ++ blkL ao70) ++ (L6 ++ (M)))) w128 := (hM.chg hc128)
          have hC := hC.trans hc128 (Ok.nil _ _)
          refine seg ha 5 [(2, .slice ao1 a2.length cap1), (8, .pointer (some ⟨gO6, 0, none⟩)), (10, .pointer (some ⟨gO42, 0, none⟩)), (12, .int .i64 x73), (13, .pointer (some ⟨g88, 0, none⟩)), (18, .int .i64 t128.1), (19, .bool t128.2)] (by kernel_rfl) fun a ha => ?_
          refine hK127 _ _ ?_; try clear hK127 K127
          refine wp_seq_k fun K129 hK129 => ?_
          refine wp_region_lit ?_
          refine seg ha 2 [(2, .slice ao1 a2.length cap1), (8, .pointer (some ⟨gO6, 0, none⟩)), (10, .pointer (some ⟨gO42, 0, none⟩)), (12, .int .i64 x73), (18, .int .i64 t128.1), (19, .bool t128.2), (116, .pointer (some ⟨gO42, 0, none⟩)), (117, .pointer (some ⟨g88, 1, none⟩))] (by kernel_rfl) fun a ha => ?_
          refine ld (v := .string (bstr ((rd a2 x73).S))) ha rfl (by kernel_rfl) rfl rfl rfl (hBg88.cell' (o := 1) rfl (by kernel_rfl)) fun a ha => ?_
          obtain ⟨t130, H130, H⟩ := bind_some H
          refine cl ha (by rfl) (by kernel_rfl) (by rfl) (by rfl) (by rfl) (Ref_Of.walk w128 _ hM gO42 ao70 x72 f70 (fun _ h => mr (ml h)) ((rd a2 x73).S) k _ H130) ?_
          rintro _ w130 ⟨rfl, hc130, hMn⟩ a ha
          have o1 : Ok [] ([g88] ++ (([gO42] ++ blkL ao70) ++ (L6 ++ (M)))) w128.heap.size := Ok.nil _ _
          have o2 : Ok ([g88] ++ (([gO42] ++ blkL ao70) ++ (L6 ++ (M)))) ([g88] ++ (([gO42] ++ blkL ao70) ++ (L6 ++ (M)))) w128.heap.size := (Ok.refl _ _)
          have f1 := f1.chg hc130 o1 o2
          have hBg88 := hBg88.chg hc130 (fun h => nomatch h)
          have fO6 := fO6.chg hc130 (fun _ _ h => nomatch h)
          have f70 := f70.chg hc130 (fun _ _ h => nomatch h)
          have hM : MS ([g88] ++ (([gO42] ++ blkL ao70) ++ (L6 ++ (M)))) w130 := (hM.chg hc130)
          have hC := hC.trans hc130 (Ok.nil _ _)
          refine seg ha 5 [(2, .slice ao1 a2.length cap1), (8, .pointer (some ⟨gO6, 0, none⟩)), (10, .pointer (some ⟨gO42, 0, none⟩)), (12, .int .i64 x73), (18, .int .i64 t128.1), (19, .bool t128.2), (20, .int .i64 t130.1), (21, .bool t130.2)] (by kernel_rfl) fun a ha => ?_
          refine hK129 _ _ ?_; try clear hK129 K129
          refine wp_seq_k fun K131 hK131 => ?_
          refine wp_region_lit ?_
          refine seg ha 8 [(2, .slice ao1 a2.length cap1), (8, .pointer (some ⟨gO6, 0, none⟩)), (10, .pointer (some ⟨gO42, 0, none⟩)), (12, .int .i64 x73), (129, .bool (if (t128.1 != t130.1) = true then true else (!(t128.2 == t130.2))))] (by kernel_rfl) fun a ha => ?_
          refine hK131 _ _ ?_; try clear hK131 K131
          refine cnd ha rfl (fun hc132 => ?_) (fun hc132 => ?_)
          ·have H := ite_t hc132 H
           refine wp_seq_k fun K133 hK133 => ?_
           refine wp_region_lit ?_
           refine seg ha 1 [(6, .bool false)] (by kernel_rfl) fun a ha => ?_
           refine hK133 _ _ ?_; try clear hK133 K133
           refine wp_ret ?_
           try simp only [Exit.then, Exit.inBlock]
           have hBg88 := hBg88.chg (Chg.refl [] _) (fun h => nomatch h)
           have hM : MS (M) w130 := (fun x h => hM.chg (Chg.refl [] _) x (mr (mr (mr (h)))))
           have hC := hC.trans (Chg.refl [] _) (Ok.nil _ _)
           obtain rfl := Option.some.inj H
           have H := (show some _ = some _ from Hc69)
           obtain rfl := Option.some.inj H
           refine rt1 ha rfl rfl ?_
           exact ⟨rfl, hC, hM⟩
          ·have H := ite_f hc132 H
           refine wp_skip ?_
           refine hK93 _ _ ?_; try clear hK93 K93
           refine wp_seq_k fun K134 hK134 => ?_
           refine wp_region_lit ?_
           refine seg ha 1 [(2, .slice ao1 a2.length cap1), (8, .pointer (some ⟨gO6, 0, none⟩)), (10, .pointer (some ⟨gO42, 0, none⟩)), (12, .int .i64 x73), (160, .pointer (some ⟨gO6, 0, none⟩))] (by kernel_rfl) fun a ha => ?_
           obtain ⟨t135, H135, H⟩ := bind_some H
           refine cl ha (by rfl) (by kernel_rfl) (by rfl) (by rfl) (by rfl) (Pool_Count.walk w130 _ hM gO6 L6 x71 fO6 (fun _ h => mr (mr (ml h))) _ H135) ?_
           rintro _ w135 ⟨rfl, hc135, hMn⟩ a ha
           have o1 : Ok [] ([g88] ++ (([gO42] ++ blkL ao70) ++ (L6 ++ (M)))) w130.heap.size := Ok.nil _ _
           have o2 : Ok ([g88] ++ (([gO42] ++ blkL ao70) ++ (L6 ++ (M)))) ([g88] ++ (([gO42] ++ blkL ao70) ++ (L6 ++ (M)))) w130.heap.size := (Ok.refl _ _)
           have f1 := f1.chg hc135 o1 o2
           have hBg88 := hBg88.chg hc135 (fun h => nomatch h)
           have fO6 := fO6.chg hc135 (fun _ _ h => nomatch h)
           have f70 := f70.chg hc135 (fun _ _ h => nomatch h)
           have hM : MS ([g88] ++ (([gO42] ++ blkL ao70) ++ (L6 ++ (M)))) w135 := (hM.chg hc135)
           have hC := hC.trans hc135 (Ok.nil _ _)
           refine seg ha 1 [(2, .slice ao1 a2.length cap1), (8, .pointer (some ⟨gO6, 0, none⟩)), (10, .pointer (some ⟨gO42, 0, none⟩)), (12, .int .i64 x73), (161, .int .i64 t135), (162, .pointer (some ⟨gO42, 0, none⟩))] (by kernel_rfl) fun a ha => ?_
           obtain ⟨t136, H136, H⟩ := bind_some H
           refine cl ha (by rfl) (by kernel_rfl) (by rfl) (by rfl) (by rfl) (Ref_Count.walk w135 _ hM gO42 ao70 x72 f70 (fun _ h => mr (ml h)) k _ H136) ?_
           rintro _ w136 ⟨rfl, hc136, hMn⟩ a ha
           have o1 : Ok [] ([g88] ++ (([gO42] ++ blkL ao70) ++ (L6 ++ (M)))) w135.heap.size := Ok.nil _ _
           have o2 : Ok ([g88] ++ (([gO42] ++ blkL ao70) ++ (L6 ++ (M)))) ([g88] ++ (([gO42] ++ blkL ao70) ++ (L6 ++ (M)))) w135.heap.size := (Ok.refl _ _)
           have f1 := f1.chg hc136 o1 o2
           have hBg88 := hBg88.chg hc136 (fun h => nomatch h)
           have fO6 := fO6.chg hc136 (fun _ _ h => nomatch h)
           have f70 := f70.chg hc136 (fun _ _ h => nomatch h)
           have hM : MS ([g88] ++ (([gO42] ++ blkL ao70) ++ (L6 ++ (M)))) w136 := (hM.chg hc136)
           have hC := hC.trans hc136 (Ok.nil _ _)
           refine seg ha 1 [(2, .slice ao1 a2.length cap1), (8, .pointer (some ⟨gO6, 0, none⟩)), (10, .pointer (some ⟨gO42, 0, none⟩)), (12, .int .i64 x73), (164, .bool (t135 != t136))] (by kernel_rfl) fun a ha => ?_
           refine hK134 _ _ ?_; try clear hK134 K134
           refine cnd ha rfl (fun hc137 => ?_) (fun hc137 => ?_)
           ·have H := ite_t hc137 H
            refine wp_seq_k fun K138 hK138 => ?_
            refine wp_region_lit ?_
            refine seg ha 1 [(6, .bool false)] (by kernel_rfl) fun a ha => ?_
            refine hK138 _ _ ?_; try clear hK138 K138
            refine wp_ret ?_
            try simp only [Exit.then, Exit.inBlock]
            have hBg88 := hBg88.chg (Chg.refl [] _) (fun h => nomatch h)
            have hM : MS (M) w136 := (fun x h => hM.chg (Chg.refl [] _) x (mr (mr (mr (h)))))
            have hC := hC.trans (Chg.refl [] _) (Ok.nil _ _)
            obtain rfl := Option.some.inj H
            have H := (show some _ = some _ from Hc69)
            obtain rfl := Option.some.inj H
            refine rt1 ha rfl rfl ?_
            exact ⟨rfl, hC, hM⟩
           ·have H := ite_f hc137 H
            refine wp_skip ?_
            refine hK78 _ _ ?_; try clear hK78 K78
            refine wp_region_lit ?_
            refine seg ha 3 [(2, .slice ao1 a2.length cap1), (8, .pointer (some ⟨gO6, 0, none⟩)), (10, .pointer (some ⟨gO42, 0, none⟩)), (12, .int .i64 (IntKind.i64.wrap (x73 + (1 : Int))))] (by kernel_rfl) fun a ha => ?_
            have o1 : Ok [] ([g88] ++ (([gO42] ++ blkL ao70) ++ (L6 ++ (M)))) w136.heap.size := Ok.nil _ _
            have o2 : Ok (([gO42] ++ blkL ao70) ++ (L6 ++ (M))) ([g88] ++ (([gO42] ++ blkL ao70) ++ (L6 ++ (M)))) w136.heap.size := (fun _ h => .inl (mr (h)))
            have f1 := f1.chg (Chg.refl [] _) o1 o2
            have hBg88 := hBg88.chg (Chg.refl [] _) (fun h => nomatch h)
            have fO6 := fO6.chg (Chg.refl [] _) (fun _ _ h => nomatch h)
            have f70 := f70.chg (Chg.refl [] _) (fun _ _ h => nomatch h)
            have hM : MS (([gO42] ++ blkL ao70) ++ (L6 ++ (M))) w136 := (fun x h => hM.chg (Chg.refl [] _) x (mr (h)))
            have hC := hC.trans (Chg.refl [] _) (Ok.nil _ _)
            exact ⟨kk, Nat.lt_succ_self _, ⟨x71, x72, IntKind.i64.wrap (x73 + (1 : Int)), ao70, cap70, H, (ha.sel (by kernel_rfl)), f1, fO6, f70, e_i70, p_i70_i6, p_i70_M, hC, hM⟩⟩
         ·have H := ite_f hc126 H
          refine wp_seq_k fun K139 hK139 => ?_
          refine wp_region_lit ?_
          refine seg ha 2 [(2, .slice ao1 a2.length cap1), (8, .pointer (some ⟨gO6, 0, none⟩)), (10, .pointer (some ⟨gO42, 0, none⟩)), (12, .int .i64 x73), (13, .pointer (some ⟨g88, 0, none⟩)), (70, .int .i64 ((rd a2 x73).Do)), (130, .bool (((rd a2 x73).Do) == (3 : Int)))] (by kernel_rfl) fun a ha => ?_
          refine hK139 _ _ ?_; try clear hK139 K139
          refine cnd ha rfl (fun hc140 => ?_) (fun hc140 => ?_)
          ·have H := ite_t hc140 H
           refine wp_seq_k fun K141 hK141 => ?_
           refine wp_region_lit ?_
           refine seg ha 2 [(2, .slice ao1 a2.length cap1), (8, .pointer (some ⟨gO6, 0, none⟩)), (10, .pointer (some ⟨gO42, 0, none⟩)), (12, .int .i64 x73), (13, .pointer (some ⟨g88, 0, none⟩)), (133, .pointer (some ⟨gO6, 0, none⟩)), (134, .pointer (some ⟨g88, 2, none⟩))] (by kernel_rfl) fun a ha => ?_
           refine ld (v := .int .i64 ((rd a2 x73).N)) ha rfl (by kernel_rfl) rfl rfl rfl (hBg88.cell' (o := 2) rfl (by kernel_rfl)) fun a ha => ?_
           obtain ⟨t142, H142, H⟩ := bind_some H
           refine cl ha (by rfl) (by kernel_rfl) (by rfl) (by rfl) (by rfl) (Pool_Owner.walk w91 _ hM gO6 L6 x71 fO6 (fun _ h => mr (mr (ml h))) ((rd a2 x73).N) _ H142) ?_
           rintro _ w142 ⟨rfl, hc142, hMn⟩ a ha
           have o1 : Ok [] ([g88] ++ (([gO42] ++ blkL ao70) ++ (L6 ++ (M)))) w91.heap.size := Ok.nil _ _
           have o2 : Ok ([g88] ++ (([gO42] ++ blkL ao70) ++ (L6 ++ (M)))) ([g88] ++ (([gO42] ++ blkL ao70) ++ (L6 ++ (M)))) w91.heap.size := (Ok.refl _ _)
           have f1 := f1.chg hc142 o1 o2
           have hBg88 := hBg88.chg hc142 (fun h => nomatch h)
           have fO6 := fO6.chg hc142 (fun _ _ h => nomatch h)
           have f70 := f70.chg hc142 (fun _ _ h => nomatch h)
           have hM : MS ([g88] ++ (([gO42] ++ blkL ao70) ++ (L6 ++ (M)))) w142 := (hM.chg hc142)
           have hC := hC.trans hc142 (Ok.nil _ _)
           refine seg ha 5 [(2, .slice ao1 a2.length cap1), (8, .pointer (some ⟨gO6, 0, none⟩)), (10, .pointer (some ⟨gO42, 0, none⟩)), (12, .int .i64 x73), (13, .pointer (some ⟨g88, 0, none⟩)), (22, .string (bstr t142.1)), (23, .bool t142.2)] (by kernel_rfl) fun a ha => ?_
           refine hK141 _ _ ?_; try clear hK141 K141
           refine wp_seq_k fun K143 hK143 => ?_
           refine wp_region_lit ?_
           refine seg ha 2 [(2, .slice ao1 a2.length cap1), (8, .pointer (some ⟨gO6, 0, none⟩)), (10, .pointer (some ⟨gO42, 0, none⟩)), (12, .int .i64 x73), (22, .string (bstr t142.1)), (23, .bool t142.2), (140, .pointer (some ⟨gO42, 0, none⟩)), (141, .pointer (some ⟨g88, 2, none⟩))] (by kernel_rfl) fun a ha => ?_
           refine ld (v := .int .i64 ((rd a2 x73).N)) ha rfl (by kernel_rfl) rfl rfl rfl (hBg88.cell' (o := 2) rfl (by kernel_rfl)) fun a ha => ?_
           obtain ⟨t144, H144, H⟩ := bind_some H
           refine cl ha (by rfl) (by kernel_rfl) (by rfl) (by rfl) (by rfl) (Ref_Owner.walk w142 _ hM gO42 ao70 x72 f70 (fun _ h => mr (ml h)) ((rd a2 x73).N) _ H144) ?_
           rintro _ w144 ⟨rfl, hc144, hMn⟩ a ha
           have o1 : Ok [] ([g88] ++ (([gO42] ++ blkL ao70) ++ (L6 ++ (M)))) w142.heap.size := Ok.nil _ _
           have o2 : Ok ([g88] ++ (([gO42] ++ blkL ao70) ++ (L6 ++ (M)))) ([g88] ++ (([gO42] ++ blkL ao70) ++ (L6 ++ (M)))) w142.heap.size := (Ok.refl _ _)
           have f1 := f1.chg hc144 o1 o2
           have hBg88 := hBg88.chg hc144 (fun h => nomatch h)
           have fO6 := fO6.chg hc144 (fun _ _ h => nomatch h)
           have f70 := f70.chg hc144 (fun _ _ h => nomatch h)
           have hM : MS ([g88] ++ (([gO42] ++ blkL ao70) ++ (L6 ++ (M)))) w144 := (hM.chg hc144)
           have hC := hC.trans hc144 (Ok.nil _ _)
           refine seg ha 5 [(2, .slice ao1 a2.length cap1), (8, .pointer (some ⟨gO6, 0, none⟩)), (10, .pointer (some ⟨gO42, 0, none⟩)), (12, .int .i64 x73), (22, .string (bstr t142.1)), (23, .bool t142.2), (24, .string (bstr t144.1)), (25, .bool t144.2)] (by kernel_rfl) fun a ha => ?_
           refine hK143 _ _ ?_; try clear hK143 K143
           refine wp_seq_k fun K145 hK145 => ?_
           refine wp_region_lit ?_
           refine seg ha 8 [(2, .slice ao1 a2.length cap1), (8, .pointer (some ⟨gO6, 0, none⟩)), (10, .pointer (some ⟨gO42, 0, none⟩)), (12, .int .i64 x73), (153, .bool (if (!((bstr t142.1).toList == (bstr t144.1).toList)) = true then true else (!(t142.2 == t144.2))))] (by kernel_rfl) fun a ha => ?_
           refine hK145 _ _ ?_; try clear hK145 K145
           refine cnd ha rfl (fun hc146 => ?_) (fun hc146 => ?_)
           ·have H := ite_t hc146 H
            refine wp_seq_k fun K147 hK147 => ?_
            refine wp_region_lit ?_
            refine seg ha 1 [(6, .bool false)] (by kernel_rfl) fun a ha => ?_
            refine hK147 _ _ ?_; try clear hK147 K147
            refine wp_ret ?_
            try simp only [Exit.then, Exit.inBlock]
            have hBg88 := hBg88.chg (Chg.refl [] _) (fun h => nomatch h)
            have hM : MS (M) w144 := (fun x h => hM.chg (Chg.refl [] _) x (mr (mr (mr (h)))))
            have hC := hC.trans (Chg.refl [] _) (Ok.nil _ _)
            obtain rfl := Option.some.inj H
            have H := (show some _ = some _ from Hc69)
            obtain rfl := Option.some.inj H
            refine rt1 ha rfl rfl ?_
            exact ⟨rfl, hC, hM⟩
           ·have H := ite_f hc146 H
            refine wp_skip ?_
            refine hK93 _ _ ?_; try clear hK93 K93
            refine wp_seq_k fun K148 hK148 => ?_
            refine wp_region_lit ?_
            refine seg ha 1 [(2, .slice ao1 a2.length cap1), (8, .pointer (some ⟨gO6, 0, none⟩)), (10, .pointer (some ⟨gO42, 0, none⟩)), (12, .int .i64 x73), (160, .pointer (some ⟨gO6, 0, none⟩))] (by kernel_rfl) fun a ha => ?_
            obtain ⟨t149, H149, H⟩ := bind_some H
            refine cl ha (by rfl) (by kernel_rfl) (by rfl) (by rfl) (by rfl) (Pool_Count.walk w144 _ hM gO6 L6 x71 fO6 (fun _ h => mr (mr (ml h))) _ H149) ?_
            rintro _ w149 ⟨rfl, hc149, hMn⟩ a ha
            have o1 : Ok [] ([g88] ++ (([gO42] ++ blkL ao70) ++ (L6 ++ (M)))) w144.heap.size := Ok.nil _ _
            have o2 : Ok ([g88] ++ (([gO42] ++ blkL ao70) ++ (L6 ++ (M)))) ([g88] ++ (([gO42] ++ blkL ao70) ++ (L6 ++ (M)))) w144.heap.size := (Ok.refl _ _)
            have f1 := f1.chg hc149 o1 o2
            have hBg88 := hBg88.chg hc149 (fun h => nomatch h)
            have fO6 := fO6.chg hc149 (fun _ _ h => nomatch h)
            have f70 := f70.chg hc149 (fun _ _ h => nomatch h)
            have hM : MS ([g88] ++ (([gO42] ++ blkL ao70) ++ (L6 ++ (M)))) w149 := (hM.chg hc149)
            have hC := hC.trans hc149 (Ok.nil _ _)
            refine seg ha 1 [(2, .slice ao1 a2.length cap1), (8, .pointer (some ⟨gO6, 0, none⟩)), (10, .pointer (some ⟨gO42, 0, none⟩)), (12, .int .i64 x73), (161, .int .i64 t149), (162, .pointer (some ⟨gO42, 0, none⟩))] (by kernel_rfl) fun a ha => ?_
            obtain ⟨t150, H150, H⟩ := bind_some H
            refine cl ha (by rfl) (by kernel_rfl) (by rfl) (by rfl) (by rfl) (Ref_Count.walk w149 _ hM gO42 ao70 x72 f70 (fun _ h => mr (ml h)) k _ H150) ?_
            rintro _ w150 ⟨rfl, hc150, hMn⟩ a ha
            have o1 : Ok [] ([g88] ++ (([gO42] ++ blkL ao70) ++ (L6 ++ (M)))) w149.heap.size := Ok.nil _ _
            have o2 : Ok ([g88] ++ (([gO42] ++ blkL ao70) ++ (L6 ++ (M)))) ([g88] ++ (([gO42] ++ blkL ao70) ++ (L6 ++ (M)))) w149.heap.size := (Ok.refl _ _)
            have f1 := f1.chg hc150 o1 o2
            have hBg88 := hBg88.chg hc150 (fun h => nomatch h)
            have fO6 := fO6.chg hc150 (fun _ _ h => nomatch h)
            have f70 := f70.chg hc150 (fun _ _ h => nomatch h)
            have hM : MS ([g88] ++ (([gO42] ++ blkL ao70) ++ (L6 ++ (M)))) w150 := (hM.chg hc150)
            have hC := hC.trans hc150 (Ok.nil _ _)
            refine seg ha 1 [(2, .slice ao1 a2.length cap1), (8, .pointer (some ⟨gO6, 0, none⟩)), (10, .pointer (some ⟨gO42, 0, none⟩)), (12, .int .i64 x73), (164, .bool (t149 != t150))] (by kernel_rfl) fun a ha => ?_
            refine hK148 _ _ ?_; try clear hK148 K148
            refine cnd ha rfl (fun hc151 => ?_) (fun hc151 => ?_)
            ·have H := ite_t hc151 H
             refine wp_seq_k fun K152 hK152 => ?_
             refine wp_region_lit ?_
             refine seg ha 1 [(6, .bool false)] (by kernel_rfl) fun a ha => ?_
             refine hK152 _ _ ?_; try clear hK152 K152
             refine wp_ret ?_
             try simp only [Exit.then, Exit.inBlock]
             have hBg88 := hBg88.chg (Chg.refl [] _) (fun h => nomatch h)
             have hM : MS (M) w150 := (fun x h => hM.chg (Chg.refl [] _) x (mr (mr (mr (h)))))
             have hC := hC.trans (Chg.refl [] _) (Ok.nil _ _)
             obtain rfl := Option.some.inj H
             have H := (show some _ = some _ from Hc69)
             obtain rfl := Option.some.inj H
             refine rt1 ha rfl rfl ?_
             exact ⟨rfl, hC, hM⟩
            ·have H := ite_f hc151 H
             refine wp_skip ?_
             refine hK78 _ _ ?_; try clear hK78 K78
             refine wp_region_lit ?_
             refine seg ha 3 [(2, .slice ao1 a2.length cap1), (8, .pointer (some ⟨gO6, 0, none⟩)), (10, .pointer (some ⟨gO42, 0, none⟩)), (12, .int .i64 (IntKind.i64.wrap (x73 + (1 : Int))))] (by kernel_rfl) fun a ha => ?_
             have o1 : Ok [] ([g88] ++ (([gO42] ++ blkL ao70) ++ (L6 ++ (M)))) w150.heap.size := Ok.nil _ _
             have o2 : Ok (([gO42] ++ blkL ao70) ++ (L6 ++ (M))) ([g88] ++ (([gO42] ++ blkL ao70) ++ (L6 ++ (M)))) w150.heap.size := (fun _ h => .inl (mr (h)))
             have f1 := f1.chg (Chg.refl [] _) o1 o2
             have hBg88 := hBg88.chg (Chg.refl [] _) (fun h => nomatch h)
             have fO6 := fO6.chg (Chg.refl [] _) (fun _ _ h => nomatch h)
             have f70 := f70.chg (Chg.refl [] _) (fun _ _ h => nomatch h)
             have hM : MS (([gO42] ++ blkL ao70) ++ (L6 ++ (M))) w150 := (fun x h => hM.chg (Chg.refl [] _) x (mr (h)))
             have hC := hC.trans (Chg.refl [] _) (Ok.nil _ _)
             exact ⟨kk, Nat.lt_succ_self _, ⟨x71, x72, IntKind.i64.wrap (x73 + (1 : Int)), ao70, cap70, H, (ha.sel (by kernel_rfl)), f1, fO6, f70, e_i70, p_i70_i6, p_i70_M, hC, hM⟩⟩
          ·have H := ite_f hc140 H
           refine wp_seq_k fun K153 hK153 => ?_
           refine wp_region_lit ?_
           refine seg ha 2 [(2, .slice ao1 a2.length cap1), (8, .pointer (some ⟨gO6, 0, none⟩)), (10, .pointer (some ⟨gO42, 0, none⟩)), (12, .int .i64 x73), (154, .bool (((rd a2 x73).Do) == (4 : Int)))] (by kernel_rfl) fun a ha => ?_
           refine hK153 _ _ ?_; try clear hK153 K153
           refine cnd ha rfl (fun hc154 => ?_) (fun hc154 => ?_)
           ·have H := ite_t hc154 H
            refine wp_seq_k fun K155 hK155 => ?_
            refine wp_region_lit ?_
            refine seg ha 1 [(2, .slice ao1 a2.length cap1), (8, .pointer (some ⟨gO6, 0, none⟩)), (10, .pointer (some ⟨gO42, 0, none⟩)), (12, .int .i64 x73), (156, .pointer (some ⟨gO6, 0, none⟩))] (by kernel_rfl) fun a ha => ?_
            obtain ⟨t156, H156, H⟩ := bind_some H
            refine cl ha (by rfl) (by kernel_rfl) (by rfl) (by rfl) (by rfl) (Pool_Clear.walk w91 _ hM gO6 L6 x71 fO6 (fun _ h => mr (mr (ml h))) _ H156) ?_
            rintro _ w156 ⟨rfl, nf156, hc156, hMn⟩ a ha
            have o1 : Ok L6 ([g88] ++ (([gO42] ++ blkL ao70) ++ (L6 ++ (M)))) w91.heap.size := (fun _ h => .inl (mr (mr (ml h))))
            have o2 : Ok ([g88] ++ (([gO42] ++ blkL ao70) ++ (L6 ++ (M)))) ([g88] ++ (([gO42] ++ blkL ao70) ++ (L6 ++ (M)))) w91.heap.size := (Ok.refl _ _)
            have f1 := f1.chg hc156 o1 o2
            have hBg88 := hBg88.chg hc156 (p_i90_i6 g88 (by simp))
            have f70 := f70.chg hc156 p_i70_i6
            have hM : MS ([g88] ++ (([gO42] ++ blkL ao70) ++ (L6 ++ (M)))) w156 := (hM.chg hc156)
            have hC := hC.trans hc156 (fun x h => .inr (e_i6 x h))
            have fO6 := nf156
            refine hK155 _ _ ?_; try clear hK155 K155
            refine wp_region_lit ?_
            refine seg ha 1 [(2, .slice ao1 a2.length cap1), (8, .pointer (some ⟨gO6, 0, none⟩)), (10, .pointer (some ⟨gO42, 0, none⟩)), (12, .int .i64 x73), (158, .pointer (some ⟨gO42, 0, none⟩))] (by kernel_rfl) fun a ha => ?_
            obtain ⟨t157, H157, H⟩ := bind_some H
            refine cl ha (by rfl) (by kernel_rfl) (by rfl) (by rfl) (by rfl) (Ref_Clear.walk w156 _ hM gO42 ao70 x72 f70 (fun _ h => mr (ml h)) _ H157) ?_
            rintro _ w157 ⟨ao157, rfl, nf157, hc157, hk157, hl157⟩ a ha
            have o1 : Ok ([gO42] ++ blkL ao70) ([g88] ++ (([gO42] ++ blkL ao70) ++ (L6 ++ (M)))) w156.heap.size := (fun _ h => .inl (mr (ml h)))
            have o2 : Ok (([gO42] ++ blkL ao157) ++ ([g88] ++ (L6 ++ (M)))) ([g88] ++ (([gO42] ++ blkL ao70) ++ (L6 ++ (M)))) w156.heap.size := (Ok.app (Ok.to hk157 (fun _ h => mr (ml h))) (Ok.app (fun _ h => .inl (ml h)) (fun _ h => .inl (mr (mr (h))))))
            have f1 := f1.chg hc157 o1 o2
            have hBg88 := hBg88.chg hc157 (p_i90_i70 g88 (by simp))
            have fO6 := fO6.chg hc157 (fun x (hx : x ∈ L6) (hy : x ∈ ([gO42] ++ blkL ao70)) => p_i70_i6 x hy hx)
            have p_i157_i90 : ∀ x ∈ ([gO42] ++ blkL ao157), x ∉ ([g88]) := fun x hx hy => (hk157 x hx).elim (fun h => (fun x hx hy => p_i90_i70 x hy hx) x h hy) (fun h => absurd (hM x (ml hy)) (Nat.not_lt.2 h))
            have p_i157_i6 : ∀ x ∈ ([gO42] ++ blkL ao157), x ∉ L6 := fun x hx hy => (hk157 x hx).elim (fun h => p_i70_i6 x h hy) (fun h => absurd (hM x (mr (mr (ml hy)))) (Nat.not_lt.2 h))
            have p_i157_M : ∀ x ∈ ([gO42] ++ blkL ao157), x ∉ M := fun x hx hy => (hk157 x hx).elim (fun h => p_i70_M x h hy) (fun h => absurd (hM x (mr (mr (mr (hy))))) (Nat.not_lt.2 h))
            have e_i157 : ∀ x ∈ ([gO42] ++ blkL ao157), w.heap.size ≤ x := fun x hx => (hk157 x hx).elim (e_i70 x) (Nat.le_trans hC.size)
            have hM : MS (([gO42] ++ blkL ao157) ++ ([g88] ++ (L6 ++ (M)))) w157 := (MS.app (fun x h => hl157 x (ml h)) (MS.app (fun x h => hM.chg hc157 x (ml h)) (fun x h => hM.chg hc157 x (mr (mr (h))))))
            have hC := hC.trans hc157 (fun x h => .inr (e_i70 x h))
            have fO157 := nf157
            refine hK93 _ _ ?_; try clear hK93 K93
            refine wp_seq_k fun K158 hK158 => ?_
            refine wp_region_lit ?_
            refine seg ha 1 [(2, .slice ao1 a2.length cap1), (8, .pointer (some ⟨gO6, 0, none⟩)), (10, .pointer (some ⟨gO42, 0, none⟩)), (12, .int .i64 x73), (160, .pointer (some ⟨gO6, 0, none⟩))] (by kernel_rfl) fun a ha => ?_
            obtain ⟨t159, H159, H⟩ := bind_some H
            refine cl ha (by rfl) (by kernel_rfl) (by rfl) (by rfl) (by rfl) (Pool_Count.walk w157 _ hM gO6 L6 t156 fO6 (fun _ h => mr (mr (ml h))) _ H159) ?_
            rintro _ w159 ⟨rfl, hc159, hMn⟩ a ha
            have o1 : Ok [] (([gO42] ++ blkL ao157) ++ ([g88] ++ (L6 ++ (M)))) w157.heap.size := Ok.nil _ _
            have o2 : Ok (([gO42] ++ blkL ao157) ++ ([g88] ++ (L6 ++ (M)))) (([gO42] ++ blkL ao157) ++ ([g88] ++ (L6 ++ (M)))) w157.heap.size := (Ok.refl _ _)
            have f1 := f1.chg hc159 o1 o2
            have hBg88 := hBg88.chg hc159 (fun h => nomatch h)
            have fO6 := fO6.chg hc159 (fun _ _ h => nomatch h)
            have fO157 := fO157.chg hc159 (fun _ _ h => nomatch h)
            have hM : MS (([gO42] ++ blkL ao157) ++ ([g88] ++ (L6 ++ (M)))) w159 := (hM.chg hc159)
            have hC := hC.trans hc159 (Ok.nil _ _)
            refine seg ha 1 [(2, .slice ao1 a2.length cap1), (8, .pointer (some ⟨gO6, 0, none⟩)), (10, .pointer (some ⟨gO42, 0, none⟩)), (12, .int .i64 x73), (161, .int .i64 t159), (162, .pointer (some ⟨gO42, 0, none⟩))] (by kernel_rfl) fun a ha => ?_
            obtain ⟨t160, H160, H⟩ := bind_some H
            refine cl ha (by rfl) (by kernel_rfl) (by rfl) (by rfl) (by rfl) (Ref_Count.walk w159 _ hM gO42 ao157 t157 fO157 (fun _ h => ml h) k _ H160) ?_
            rintro _ w160 ⟨rfl, hc160, hMn⟩ a ha
            have o1 : Ok [] (([gO42] ++ blkL ao157) ++ ([g88] ++ (L6 ++ (M)))) w159.heap.size := Ok.nil _ _
            have o2 : Ok (([gO42] ++ blkL ao157) ++ ([g88] ++ (L6 ++ (M)))) (([gO42] ++ blkL ao157) ++ ([g88] ++ (L6 ++ (M)))) w159.heap.size := (Ok.refl _ _)
            have f1 := f1.chg hc160 o1 o2
            have hBg88 := hBg88.chg hc160 (fun h => nomatch h)
            have fO6 := fO6.chg hc160 (fun _ _ h => nomatch h)
            have fO157 := fO157.chg hc160 (fun _ _ h => nomatch h)
            have hM : MS (([gO42] ++ blkL ao157) ++ ([g88] ++ (L6 ++ (M)))) w160 := (hM.chg hc160)
            have hC := hC.trans hc160 (Ok.nil _ _)
            refine seg ha 1 [(2, .slice ao1 a2.length cap1), (8, .pointer (some ⟨gO6, 0, none⟩)), (10, .pointer (some ⟨gO42, 0, none⟩)), (12, .int .i64 x73), (164, .bool (t159 != t160))] (by kernel_rfl) fun a ha => ?_
            refine hK158 _ _ ?_; try clear hK158 K158
            refine cnd ha rfl (fun hc161 => ?_) (fun hc161 => ?_)
            ·have H := ite_t hc161 H
             refine wp_seq_k fun K162 hK162 => ?_
             refine wp_region_lit ?_
             refine seg ha 1 [(6, .bool false)] (by kernel_rfl) fun a ha => ?_
             refine hK162 _ _ ?_; try clear hK162 K162
             refine wp_ret ?_
             try simp only [Exit.then, Exit.inBlock]
             have hBg88 := hBg88.chg (Chg.refl [] _) (fun h => nomatch h)
             have hM : MS (M) w160 := (fun x h => hM.chg (Chg.refl [] _) x (mr (mr (mr (h)))))
             have hC := hC.trans (Chg.refl [] _) (Ok.nil _ _)
             obtain rfl := Option.some.inj H
             have H := (show some _ = some _ from Hc69)
             obtain rfl := Option.some.inj H
             refine rt1 ha rfl rfl ?_
             exact ⟨rfl, hC, hM⟩
            ·have H := ite_f hc161 H
             refine wp_skip ?_
             refine hK78 _ _ ?_; try clear hK78 K78
             refine wp_region_lit ?_
             refine seg ha 3 [(2, .slice ao1 a2.length cap1), (8, .pointer (some ⟨gO6, 0, none⟩)), (10, .pointer (some ⟨gO42, 0, none⟩)), (12, .int .i64 (IntKind.i64.wrap (x73 + (1 : Int))))] (by kernel_rfl) fun a ha => ?_
             have o1 : Ok [] (([gO42] ++ blkL ao157) ++ ([g88] ++ (L6 ++ (M)))) w160.heap.size := Ok.nil _ _
             have o2 : Ok (([gO42] ++ blkL ao157) ++ (L6 ++ (M))) (([gO42] ++ blkL ao157) ++ ([g88] ++ (L6 ++ (M)))) w160.heap.size := (Ok.app (fun _ h => .inl (ml h)) (fun _ h => .inl (mr (mr (h)))))
             have f1 := f1.chg (Chg.refl [] _) o1 o2
             have hBg88 := hBg88.chg (Chg.refl [] _) (fun h => nomatch h)
             have fO6 := fO6.chg (Chg.refl [] _) (fun _ _ h => nomatch h)
             have fO157 := fO157.chg (Chg.refl [] _) (fun _ _ h => nomatch h)
             have hM : MS (([gO42] ++ blkL ao157) ++ (L6 ++ (M))) w160 := (MS.app (fun x h => hM.chg (Chg.refl [] _) x (ml h)) (fun x h => hM.chg (Chg.refl [] _) x (mr (mr (h)))))
             have hC := hC.trans (Chg.refl [] _) (Ok.nil _ _)
             exact ⟨kk, Nat.lt_succ_self _, ⟨t156, t157, IntKind.i64.wrap (x73 + (1 : Int)), ao157, cap70, H, (ha.sel (by kernel_rfl)), f1, fO6, fO157, e_i157, p_i157_i6, p_i157_M, hC, hM⟩⟩
           ·have H := ite_f hc154 H
            refine wp_skip ?_
            refine hK93 _ _ ?_; try clear hK93 K93
            refine wp_seq_k fun K163 hK163 => ?_
            refine wp_region_lit ?_
            refine seg ha 1 [(2, .slice ao1 a2.length cap1), (8, .pointer (some ⟨gO6, 0, none⟩)), (10, .pointer (some ⟨gO42, 0, none⟩)), (12, .int .i64 x73), (160, .pointer (some ⟨gO6, 0, none⟩))] (by kernel_rfl) fun a ha => ?_
            obtain ⟨t164, H164, H⟩ := bind_some H
            refine cl ha (by rfl) (by kernel_rfl) (by rfl) (by rfl) (by rfl) (Pool_Count.walk w91 _ hM gO6 L6 x71 fO6 (fun _ h => mr (mr (ml h))) _ H164) ?_
            rintro _ w164 ⟨rfl, hc164, hMn⟩ a ha
            have o1 : Ok [] ([g88] ++ (([gO42] ++ blkL ao70) ++ (L6 ++ (M)))) w91.heap.size := Ok.nil _ _
            have o2 : Ok ([g88] ++ (([gO42] ++ blkL ao70) ++ (L6 ++ (M)))) ([g88] ++ (([gO42] ++ blkL ao70) ++ (L6 ++ (M)))) w91.heap.size := (Ok.refl _ _)
            have f1 := f1.chg hc164 o1 o2
            have hBg88 := hBg88.chg hc164 (fun h => nomatch h)
            have fO6 := fO6.chg hc164 (fun _ _ h => nomatch h)
            have f70 := f70.chg hc164 (fun _ _ h => nomatch h)
            have hM : MS ([g88] ++ (([gO42] ++ blkL ao70) ++ (L6 ++ (M)))) w164 := (hM.chg hc164)
            have hC := hC.trans hc164 (Ok.nil _ _)
            refine seg ha 1 [(2, .slice ao1 a2.length cap1), (8, .pointer (some ⟨gO6, 0, none⟩)), (10, .pointer (some ⟨gO42, 0, none⟩)), (12, .int .i64 x73), (161, .int .i64 t164), (162, .pointer (some ⟨gO42, 0, none⟩))] (by kernel_rfl) fun a ha => ?_
            obtain ⟨t165, H165, H⟩ := bind_some H
            refine cl ha (by rfl) (by kernel_rfl) (by rfl) (by rfl) (by rfl) (Ref_Count.walk w164 _ hM gO42 ao70 x72 f70 (fun _ h => mr (ml h)) k _ H165) ?_
            rintro _ w165 ⟨rfl, hc165, hMn⟩ a ha
            have o1 : Ok [] ([g88] ++ (([gO42] ++ blkL ao70) ++ (L6 ++ (M)))) w164.heap.size := Ok.nil _ _
            have o2 : Ok ([g88] ++ (([gO42] ++ blkL ao70) ++ (L6 ++ (M)))) ([g88] ++ (([gO42] ++ blkL ao70) ++ (L6 ++ (M)))) w164.heap.size := (Ok.refl _ _)
            have f1 := f1.chg hc165 o1 o2
            have hBg88 := hBg88.chg hc165 (fun h => nomatch h)
            have fO6 := fO6.chg hc165 (fun _ _ h => nomatch h)
            have f70 := f70.chg hc165 (fun _ _ h => nomatch h)
            have hM : MS ([g88] ++ (([gO42] ++ blkL ao70) ++ (L6 ++ (M)))) w165 := (hM.chg hc165)
            have hC := hC.trans hc165 (Ok.nil _ _)
            refine seg ha 1 [(2, .slice ao1 a2.length cap1), (8, .pointer (some ⟨gO6, 0, none⟩)), (10, .pointer (some ⟨gO42, 0, none⟩)), (12, .int .i64 x73), (164, .bool (t164 != t165))] (by kernel_rfl) fun a ha => ?_
            refine hK163 _ _ ?_; try clear hK163 K163
            refine cnd ha rfl (fun hc166 => ?_) (fun hc166 => ?_)
            ·have H := ite_t hc166 H
             refine wp_seq_k fun K167 hK167 => ?_
             refine wp_region_lit ?_
             refine seg ha 1 [(6, .bool false)] (by kernel_rfl) fun a ha => ?_
             refine hK167 _ _ ?_; try clear hK167 K167
             refine wp_ret ?_
             try simp only [Exit.then, Exit.inBlock]
             have hBg88 := hBg88.chg (Chg.refl [] _) (fun h => nomatch h)
             have hM : MS (M) w165 := (fun x h => hM.chg (Chg.refl [] _) x (mr (mr (mr (h)))))
             have hC := hC.trans (Chg.refl [] _) (Ok.nil _ _)
             obtain rfl := Option.some.inj H
             have H := (show some _ = some _ from Hc69)
             obtain rfl := Option.some.inj H
             refine rt1 ha rfl rfl ?_
             exact ⟨rfl, hC, hM⟩
            ·have H := ite_f hc166 H
             refine wp_skip ?_
             refine hK78 _ _ ?_; try clear hK78 K78
             refine wp_region_lit ?_
             refine seg ha 3 [(2, .slice ao1 a2.length cap1), (8, .pointer (some ⟨gO6, 0, none⟩)), (10, .pointer (some ⟨gO42, 0, none⟩)), (12, .int .i64 (IntKind.i64.wrap (x73 + (1 : Int))))] (by kernel_rfl) fun a ha => ?_
             have o1 : Ok [] ([g88] ++ (([gO42] ++ blkL ao70) ++ (L6 ++ (M)))) w165.heap.size := Ok.nil _ _
             have o2 : Ok (([gO42] ++ blkL ao70) ++ (L6 ++ (M))) ([g88] ++ (([gO42] ++ blkL ao70) ++ (L6 ++ (M)))) w165.heap.size := (fun _ h => .inl (mr (h)))
             have f1 := f1.chg (Chg.refl [] _) o1 o2
             have hBg88 := hBg88.chg (Chg.refl [] _) (fun h => nomatch h)
             have fO6 := fO6.chg (Chg.refl [] _) (fun _ _ h => nomatch h)
             have f70 := f70.chg (Chg.refl [] _) (fun _ _ h => nomatch h)
             have hM : MS (([gO42] ++ blkL ao70) ++ (L6 ++ (M))) w165 := (fun x h => hM.chg (Chg.refl [] _) x (mr (h)))
             have hC := hC.trans (Chg.refl [] _) (Ok.nil _ _)
             exact ⟨kk, Nat.lt_succ_self _, ⟨x71, x72, IntKind.i64.wrap (x73 + (1 : Int)), ao70, cap70, H, (ha.sel (by kernel_rfl)), f1, fO6, f70, e_i70, p_i70_i6, p_i70_M, hC, hM⟩⟩
      ·have H := ite_f hc77 H
       refine wp_exit ?_
       simp only [Exit.then, Exit.inBlock, ↓reduceIte, Nat.reduceEqDiff]
       obtain rfl := Option.some.inj H
       have o1 : Ok [] (([gO42] ++ blkL ao70) ++ (L6 ++ (M))) w69.heap.size := Ok.nil _ _
       have o2 : Ok (M) (([gO42] ++ blkL ao70) ++ (L6 ++ (M))) w69.heap.size := (fun _ h => .inl (mr (mr (h))))
       have f1 := f1.chg (Chg.refl [] _) o1 o2
       have fO6 := fO6.chg (Chg.refl [] _) (fun _ _ h => nomatch h)
       have f70 := f70.chg (Chg.refl [] _) (fun _ _ h => nomatch h)
       have hM : MS (M) w69 := (fun x h => hM.chg (Chg.refl [] _) x (mr (mr (h))))
       have hC := hC.trans (Chg.refl [] _) (Ok.nil _ _)
       exact J69 _ _ _ rfl (ha.sel (by kernel_rfl)) hC hM
end Go.E
