/- What the functions that the law reaches compute, and the walks that show it. -/
import Derived.Test.YtilmdjjeakileaaGreatDoorEngU
import Derived.Test.YtilmdjjeakileaaGreatDoorShelf
import Derived.Test.YtilmdjjeakileaaGreatDoorProg
set_option linter.unusedVariables false
set_option linter.unusedSimpArgs false
namespace Go.E
open Go.RowKit Go.Proofs
def dbTab : List Int := [0, 1, 56, 2, 57, 49, 28, 3, 61, 58, 42, 50, 38, 29, 17, 4, 62, 47, 59, 36, 45, 43, 51, 22, 53, 39, 33, 30, 24, 18, 12, 5, 63, 55, 48, 27, 60, 41, 37, 16, 46, 35, 44, 21, 52, 32, 23, 11, 54, 26, 40, 15, 34, 20, 31, 10, 25, 14, 19, 9, 13, 8, 7, 6]
def GF (w : World) (M : List Nat) : Prop := TabOk Tryz.prog w M "internal/strconv.uint64pow10" .u64 Lib.pow10Tab 1 ∧ TabOk Tryz.prog w M "math/bits.deBruijn64tab" .u8 dbTab 5 ∧ IntOk w M 0
theorem GF.chg {w w' : World} {M M' gs : List Nat} (h : GF w M) (hc : Chg gs w w') (ho : Ok gs M w.heap.size) (hm : Ok M' M w.heap.size) : GF w' M' :=
  ⟨h.1.chg (by kernel_rfl) hc ho hm, h.2.1.chg (by kernel_rfl) hc ho hm, h.2.2.chg hc ho hm⟩
structure S_cursor_rest where
  left : List Int
  bad : Bool
  deriving DecidableEq, Inhabited
def cS_cursor_rest (x : S_cursor_rest) (ao1 : Option Addr) (cap1 : Nat) : List Value := ([.slice ao1 x.left.length cap1] : List Value) ++ (([.bool x.bad] : List Value))
def rS_cursor_rest : Rep S_cursor_rest := rIso (fun x : S_cursor_rest => (x.left, x.bad)) (rPair (rSl 5 (rInt .u8)) rBool)
theorem rS_cursor_rest.open {w : World} {M : List Nat} {cs : List Value} {x : S_cursor_rest} (h : rS_cursor_rest.R w M cs x) : ∃ (ao1 : Option Addr) (cap1 : Nat), cs = cS_cursor_rest x ao1 cap1 ∧ RSl (rInt .u8) 5 w M ao1 cap1 x.left := by
  obtain ⟨c0, k0, e0, h0, h1⟩ := h
  obtain ⟨ao1, cap1, rfl, f1⟩ := h0
  obtain rfl := h1
  subst e0
  exact ⟨ao1, cap1, rfl, f1⟩
theorem rS_cursor_rest.mk {w : World} {M : List Nat} (x : S_cursor_rest) {ao1 : Option Addr} {cap1 : Nat} (f1 : RSl (rInt .u8) 5 w M ao1 cap1 x.left) : rS_cursor_rest.R w M (cS_cursor_rest x ao1 cap1) x := ⟨_, _, rfl, ⟨ao1, cap1, rfl, f1⟩, rfl⟩
def okS_cursor_rest (x : S_cursor_rest) : Prop := (okL 1 (okI .u8)) x.left ∧ okB x.bad
structure S_cursor_Reader where
  rest : S_cursor_rest
  deriving DecidableEq, Inhabited
def cS_cursor_Reader (x : S_cursor_Reader) (ao1 : Option Addr) (cap1 : Nat) : List Value := cS_cursor_rest x.rest ao1 cap1
def rS_cursor_Reader : Rep S_cursor_Reader := rIso (fun x : S_cursor_Reader => x.rest) rS_cursor_rest
theorem rS_cursor_Reader.open {w : World} {M : List Nat} {cs : List Value} {x : S_cursor_Reader} (h : rS_cursor_Reader.R w M cs x) : ∃ (ao1 : Option Addr) (cap1 : Nat), cs = cS_cursor_Reader x ao1 cap1 ∧ RSl (rInt .u8) 5 w M ao1 cap1 x.rest.left := by
  have h0 := h
  have h0 := rS_cursor_rest.open h0
  obtain ⟨ao1, cap1, rfl, f1⟩ := h0
  exact ⟨ao1, cap1, rfl, f1⟩
theorem rS_cursor_Reader.mk {w : World} {M : List Nat} (x : S_cursor_Reader) {ao1 : Option Addr} {cap1 : Nat} (f1 : RSl (rInt .u8) 5 w M ao1 cap1 x.rest.left) : rS_cursor_Reader.R w M (cS_cursor_Reader x ao1 cap1) x := (rS_cursor_rest.mk x.rest f1)
def okS_cursor_Reader (x : S_cursor_Reader) : Prop := (okS_cursor_rest) x.rest
structure S_api_Addr where
  Size : Int
  B : List Int
  deriving DecidableEq, Inhabited
def cS_api_Addr (x : S_api_Addr) : List Value := ([.int .i64 x.Size] : List Value) ++ (cA .u8 16 x.B)
def rS_api_Addr : Rep S_api_Addr := rIso (fun x : S_api_Addr => (x.Size, x.B)) (rPair (rInt .i64) (rArr .u8 16))
theorem rS_api_Addr.open {w : World} {M : List Nat} {cs : List Value} {x : S_api_Addr} (h : rS_api_Addr.R w M cs x) : cs = cS_api_Addr x := by
  obtain ⟨c0, k0, e0, h0, h1⟩ := h
  obtain rfl := h0
  obtain rfl := h1
  subst e0
  exact rfl
theorem rS_api_Addr.mk {w : World} {M : List Nat} (x : S_api_Addr) : rS_api_Addr.R w M (cS_api_Addr x) x := ⟨_, _, rfl, rfl, rfl⟩
def okS_api_Addr (x : S_api_Addr) : Prop := (okI .i64) x.Size ∧ (okA .u8 16) x.B
def rd_highSize.f (a0 : Int) : Option (Int × Bool) := (if (a0 == (0 : Int)) = true then some (((2 : Int) : Int), (true : Bool)) else ((if (a0 == (1 : Int)) = true then some (a0 == (1 : Int) : Bool) else some (a0 == (2 : Int) : Bool))).bind fun s8 => (if s8 = true then some (((4 : Int) : Int), (true : Bool)) else some (((0 : Int) : Int), (false : Bool))))
set_option maxRecDepth 100000 in
theorem rd_highSize.walk (w : World) (M : List Nat) (hM : MS M w) (a0 : Int) (r : Int × Bool) (H : rd_highSize.f a0 = some r) :
    To Tryz.prog 68 [.int .i64 a0] w fun v w' => v = .tuple #[.int .i64 r.1, .bool r.2] ∧ Chg [] w w' ∧ MS (M) w' := by
 unfold rd_highSize.f at H
 refine ent Tryz.func68 rfl [(0, .int .i64 a0)] rfl (by rfl) fun a ha => ?_
 have hC : Chg [] w w := Chg.refl _ _
 refine wp_seq_k fun K1 hK1 => ?_
 refine wp_region_lit ?_
 refine seg ha 2 [(0, .int .i64 a0)] (by kernel_rfl) fun a ha => ?_
 refine hK1 _ _ ?_; try clear hK1 K1
 refine wp_seq_k fun K2 hK2 => ?_
 refine wp_seq_k fun K3 hK3 => ?_
 refine wp_region_lit ?_
 refine seg ha 1 [(4, .int .i64 a0)] (by kernel_rfl) fun a ha => ?_
 refine hK3 _ _ ?_; try clear hK3 K3
 refine wp_block ?_
 refine wp_seq_k fun K4 hK4 => ?_
 refine wp_region_lit ?_
 refine seg ha 2 [(4, .int .i64 a0), (5, .bool (a0 == (0 : Int)))] (by kernel_rfl) fun a ha => ?_
 refine hK4 _ _ ?_; try clear hK4 K4
 refine cnd ha rfl (fun hc5 => ?_) (fun hc5 => ?_)
 ·have H := ite_t hc5 H
  refine wp_seq_k fun K6 hK6 => ?_
  refine wp_region_lit ?_
  refine seg ha 2 [(2, .int .i64 (2 : Int)), (3, .bool true)] (by kernel_rfl) fun a ha => ?_
  refine hK6 _ _ ?_; try clear hK6 K6
  refine wp_ret ?_
  try simp only [Exit.then, Exit.inBlock]
  obtain rfl := Option.some.inj H
  refine rt2 ha rfl rfl rfl ?_
  exact ⟨rfl, hC, hM⟩
 ·have H := ite_f hc5 H
  refine wp_seq_k fun K7 hK7 => ?_
  obtain ⟨s8, H8, H⟩ := bind_some H
  have J8 : ∀ (a : Act) (w8 : World), Has a Tryz.f68.ntmps [(7, .bool s8)] → (Chg [] w w8) → (MS (M) w8) → K7 a w8 := by
   intro a w8 ha hC hM
   refine hK7 _ _ ?_; try clear hK7 K7
   refine cnd ha rfl (fun hc9 => ?_) (fun hc9 => ?_)
   ·have H := ite_t hc9 H
    refine wp_seq_k fun K10 hK10 => ?_
    refine wp_region_lit ?_
    refine seg ha 2 [(2, .int .i64 (4 : Int)), (3, .bool true)] (by kernel_rfl) fun a ha => ?_
    refine hK10 _ _ ?_; try clear hK10 K10
    refine wp_ret ?_
    try simp only [Exit.then, Exit.inBlock]
    obtain rfl := Option.some.inj H
    refine rt2 ha rfl rfl rfl ?_
    exact ⟨rfl, hC, hM⟩
   ·have H := ite_f hc9 H
    refine wp_skip ?_
    refine hK2 _ _ ?_; try clear hK2 K2
    refine wp_seq_k fun K11 hK11 => ?_
    refine wp_region_lit ?_
    refine seg ha 2 [(2, .int .i64 (0 : Int)), (3, .bool false)] (by kernel_rfl) fun a ha => ?_
    refine hK11 _ _ ?_; try clear hK11 K11
    refine wp_ret ?_
    try simp only [Exit.then, Exit.inBlock]
    obtain rfl := Option.some.inj H
    refine rt2 ha rfl rfl rfl ?_
    exact ⟨rfl, hC, hM⟩
  have H := H8
  refine wp_seq_k fun K12 hK12 => ?_
  refine wp_region_lit ?_
  refine seg ha 2 [(4, .int .i64 a0), (7, .bool (a0 == (1 : Int)))] (by kernel_rfl) fun a ha => ?_
  refine hK12 _ _ ?_; try clear hK12 K12
  refine cnd ha rfl (fun hc13 => ?_) (fun hc13 => ?_)
  ·have H := ite_t hc13 H
   refine wp_skip ?_
   obtain rfl := Option.some.inj H
   exact J8 _ _ (ha.sel (by kernel_rfl)) hC hM
  ·have H := ite_f hc13 H
   refine wp_region_lit ?_
   refine seg ha 2 [(7, .bool (a0 == (2 : Int)))] (by kernel_rfl) fun a ha => ?_
   obtain rfl := Option.some.inj H
   exact J8 _ _ (ha.sel (by kernel_rfl)) hC hM

def bytes_Clone.f (a0 : List Int) : Option (List Int) := if a0.length ≤ 140737488355328 then some a0 else none
theorem bytes_Clone.walk (w : World) (M : List Nat) (hM : MS M w) (a0 : List Int) (ao1 : Option Addr) (cap1 : Nat) (f1 : RSl (rInt .u8) 5 w M ao1 cap1 a0) (r : List Int) (H : bytes_Clone.f a0 = some r) :
    To Tryz.prog 100 [.slice ao1 a0.length cap1] w fun v w' => ∃ (ao2 : Option Addr) (cap2 : Nat), v = .slice ao2 r.length cap2 ∧ (Own (rInt .u8) 5 w' (blkL ao2 ++ M) ao2 cap2 r) ∧ (∀ x ∈ blkL ao2, w.heap.size ≤ x) ∧ Chg [] w w' ∧ MS (blkL ao2 ++ M) w' := by
  unfold bytes_Clone.f at H
  obtain ⟨hb, H⟩ := ite_some H
  obtain rfl := Option.some.inj H
  refine ent Tryz.func100 rfl [(0, .slice ao1 a0.length cap1)] rfl rfl fun a ha => ?_
  refine wp_seq_k fun K hK => ?_
  refine wp_region_lit ?_
  refine seg ha 1 [(0, .slice ao1 a0.length cap1)] (by kernel_rfl) fun a ha => ?_
  refine hK _ _ ?_; clear hK K
  refine wp_seq_k fun K hK => ?_
  refine wp_seq_k fun K2 hK2 => ?_
  refine wp_region_lit ?_
  refine seg ha 2 [(0, .slice ao1 a0.length cap1), (4, .bool ao1.isNone)] (by kernel_rfl) fun a ha => ?_
  refine hK2 _ _ ?_; clear hK2 K2
  refine cnd ha rfl (fun hc => ?_) (fun hc => ?_)
  · refine wp_seq_k fun K2 hK2 => ?_
    refine wp_region_lit ?_
    refine seg ha 1 [(2, .slice none 0 0)] (by kernel_rfl) fun a ha => ?_
    refine hK2 _ _ ?_; clear hK2 K2
    refine wp_ret ?_
    have hx : a0 = [] := by
      rcases f1 with ⟨_, _, h | ⟨g, o, cur, fr, e, _⟩⟩
      · exact h
      · subst e; simp at hc
    simp only [Exit.then]
    refine rt1 ha rfl rfl ?_
    exact ⟨none, 0, by rw [hx]; rfl, by rw [hx]; exact Own.nil, (fun _ h => nomatch h), Chg.refl _ _, hM⟩
  · refine wp_skip ?_
    refine hK _ _ ?_; clear hK K
    refine wp_seq_k fun K hK => ?_
    refine wp_region_lit ?_
    refine bsl (vals := []) (T := 5) ha rfl [] (fun w => by kernel_rfl) rfl rfl rfl fun a w1 g hN ha => ?_
    refine seg ha 1 [(0, .slice ao1 a0.length cap1), (5, .slice (some ⟨g, 0, none⟩) 0 0), (6, .slice ao1 a0.length cap1)] (by kernel_rfl) fun a ha => ?_
    have hO : Own (rInt .u8) 5 w1 ([g] ++ M) (some ⟨g, 0, none⟩) 0 [] := hN.own rfl (Nat.zero_le _)
    have h1 : RSl (rInt .u8) 5 w1 ([g] ++ M) ao1 cap1 a0 := f1.chg hN.chg (Ok.nil _ _) (Ok.app (hN.ok _) (Ok.refl _ _))
    refine app (r := rInt .u8) (xs := []) ha (ElemT.mk' (bytes := 1) (by kernel_rfl)) rfl rfl rfl rfl rfl hO h1.src (by simpa using hb) (by decide) fun a w2 ao2 cap2 hO2 hc2 hok hlt ha => ?_
    refine seg ha 1 [(2, .slice ao2 ([] ++ a0).length cap2)] (by kernel_rfl) fun a ha => ?_
    refine hK _ _ ?_; clear hK K
    refine wp_ret ?_
    refine rt1 ha rfl rfl ⟨ao2, cap2, rfl, ?_, ?_, ?_, ?_⟩
    · exact hO2.chg (Chg.refl [] _) (Ok.nil _ _) (Ok.app (fun g hg => .inl (ml hg)) (fun g hg => .inl (mr (mr hg)))) (fun _ _ hh => nomatch hh) (fun g hg => ml hg)
    · intro x hx
      rcases hok x hx with h | h
      · simp [blkL] at h; subst h; exact hN.ge
      · exact Nat.le_trans hN.chg.size h
    · exact hN.chg.trans hc2 (Ok.one (.inr hN.ge))
    · exact MS.app hlt ((hM.chg hN.chg).chg hc2)

def cursor_Put.l0 (a1 : Int) : Nat → (List Int) → Int → Option (List Int)
  | 0, _, _ => none
  | kk + 1, x20, x21 => (if (decide (x21 ≥ (0 : Int))) = true then (if 0 ≤ x21 then (if (x20.length + ([IntKind.u8.wrap (Int.fdiv a1 (2 ^ (min (Int.toNat x21) IntKind.i64.bits)))] : List Int).length) * 1 ≤ 140737488355328 then cursor_Put.l0 a1 kk (x20 ++ ([IntKind.u8.wrap (Int.fdiv a1 (2 ^ (min (Int.toNat x21) IntKind.i64.bits)))] : List Int)) (IntKind.i64.wrap (x21 - (8 : Int))) else none) else none) else some (x20 : List Int))
def cursor_Put.f (k : Nat) (a0 : List Int) (a1 : Int) (a2 : Int) : Option (List Int × Int) := (if (if (decide (a2 < (1 : Int))) = true then true else (decide (a2 > (4 : Int)))) = true then some ((([] : List Int) : List Int), ((1 : Int) : Int)) else ((if (decide (a1 < (0 : Int))) = true then some (true : Bool) else (if 0 ≤ (IntKind.i64.wrap ((8 : Int) * a2)) then some ((Int.fdiv a1 (2 ^ (min (Int.toNat (IntKind.i64.wrap ((8 : Int) * a2))) IntKind.i64.bits))) != (0 : Int) : Bool) else none))).bind fun s9 => (if s9 = true then some ((([] : List Int) : List Int), ((5 : Int) : Int)) else (bytes_Clone.f a0).bind fun t14 => (cursor_Put.l0 a1 k t14 (IntKind.i64.wrap ((8 : Int) * (IntKind.i64.wrap (a2 - (1 : Int)))))).bind fun s18 => some ((s18 : List Int), ((0 : Int) : Int))))
set_option maxRecDepth 100000 in
theorem cursor_Put.walk (w : World) (M : List Nat) (hM : MS M w) (a0 : List Int) (ao1 : Option Addr) (cap1 : Nat) (f1 : RSl (rInt .u8) 5 w M ao1 cap1 a0) (a1 : Int) (a2 : Int) (k : Nat) (r : List Int × Int) (H : cursor_Put.f k a0 a1 a2 = some r) :
    To Tryz.prog 69 [.slice ao1 a0.length cap1, .int .i64 a1, .int .i64 a2] w fun v w' => ∃ (ao39 : Option Addr) (cap39 : Nat), v = .tuple #[.slice ao39 r.1.length cap39, .int .i64 r.2] ∧ (Own (rInt .u8) 5 w' (blkL ao39 ++ (M)) ao39 cap39 r.1) ∧ (∀ x ∈ blkL ao39, w.heap.size ≤ x) ∧ Chg [] w w' ∧ MS (blkL ao39 ++ (M)) w' := by
 unfold cursor_Put.f at H
 refine ent Tryz.func69 rfl [(0, .slice ao1 a0.length cap1), (1, .int .i64 a1), (2, .int .i64 a2)] rfl (by rfl) fun a ha => ?_
 have hC : Chg [] w w := Chg.refl _ _
 refine wp_seq_k fun K2 hK2 => ?_
 refine wp_region_lit ?_
 refine seg ha 2 [(0, .slice ao1 a0.length cap1), (1, .int .i64 a1), (2, .int .i64 a2)] (by kernel_rfl) fun a ha => ?_
 refine hK2 _ _ ?_; try clear hK2 K2
 refine wp_seq_k fun K3 hK3 => ?_
 refine wp_block ?_
 refine wp_seq_k fun K4 hK4 => ?_
 refine wp_region_lit ?_
 refine seg ha 7 [(0, .slice ao1 a0.length cap1), (1, .int .i64 a1), (2, .int .i64 a2), (10, .bool (if (decide (a2 < (1 : Int))) = true then true else (decide (a2 > (4 : Int)))))] (by kernel_rfl) fun a ha => ?_
 refine hK4 _ _ ?_; try clear hK4 K4
 refine cnd ha rfl (fun hc5 => ?_) (fun hc5 => ?_)
 ·have H := ite_t hc5 H
  refine wp_seq_k fun K6 hK6 => ?_
  refine wp_region_lit ?_
  refine seg ha 2 [(6, .slice none 0 0), (7, .int .i64 (1 : Int))] (by kernel_rfl) fun a ha => ?_
  refine hK6 _ _ ?_; try clear hK6 K6
  refine wp_ret ?_
  try simp only [Exit.then, Exit.inBlock]
  have p_z7_M : ∀ x ∈ blkL none, x ∉ M := fun x hx hy => absurd (hM x (hy)) (Nat.not_lt.2 ((fun _ h => nomatch h) x hx))
  have e_z7 : ∀ x ∈ blkL none, w.heap.size ≤ x := fun x hx => Nat.le_trans hC.size ((fun _ h => nomatch h) x hx)
  have hM : MS (blkL none ++ (M)) w := (MS.app (fun _ h => nomatch h) (hM.chg (Chg.refl [] _)))
  have hC := hC.trans (Chg.refl [] _) (Ok.nil _ _)
  obtain rfl := Option.some.inj H
  refine rt2 ha rfl rfl rfl ?_
  exact ⟨none, 0, rfl, Own.nil, e_z7, hC, hM⟩
 ·have H := ite_f hc5 H
  refine wp_seq_k fun K8 hK8 => ?_
  refine wp_region_lit ?_
  obtain ⟨s9, H9, H⟩ := bind_some H
  have J9 : ∀ (a : Act) (w9 : World), Has a Tryz.f69.ntmps [(0, .slice ao1 a0.length cap1), (1, .int .i64 a1), (2, .int .i64 a2), (17, .bool s9)] → (RSl (rInt .u8) 5 w9 (M) ao1 cap1 a0) → (Chg [] w w9) → (MS (M) w9) → K8 a w9 := by
   intro a w9 ha f1 hC hM
   refine hK8 _ _ ?_; try clear hK8 K8
   refine cnd ha rfl (fun hc10 => ?_) (fun hc10 => ?_)
   ·have H := ite_t hc10 H
    refine wp_seq_k fun K11 hK11 => ?_
    refine wp_region_lit ?_
    refine seg ha 2 [(6, .slice none 0 0), (7, .int .i64 (5 : Int))] (by kernel_rfl) fun a ha => ?_
    refine hK11 _ _ ?_; try clear hK11 K11
    refine wp_ret ?_
    try simp only [Exit.then, Exit.inBlock]
    have p_z12_M : ∀ x ∈ blkL none, x ∉ M := fun x hx hy => absurd (hM x (hy)) (Nat.not_lt.2 ((fun _ h => nomatch h) x hx))
    have e_z12 : ∀ x ∈ blkL none, w.heap.size ≤ x := fun x hx => Nat.le_trans hC.size ((fun _ h => nomatch h) x hx)
    have hM : MS (blkL none ++ (M)) w9 := (MS.app (fun _ h => nomatch h) (hM.chg (Chg.refl [] _)))
    have hC := hC.trans (Chg.refl [] _) (Ok.nil _ _)
    obtain rfl := Option.some.inj H
    refine rt2 ha rfl rfl rfl ?_
    exact ⟨none, 0, rfl, Own.nil, e_z12, hC, hM⟩
   ·have H := ite_f hc10 H
    refine wp_skip ?_
    refine hK3 _ _ ?_; try clear hK3 K3
    refine wp_seq_k fun K13 hK13 => ?_
    refine wp_region_lit ?_
    refine seg ha 1 [(1, .int .i64 a1), (2, .int .i64 a2), (27, .slice ao1 a0.length cap1)] (by kernel_rfl) fun a ha => ?_
    obtain ⟨t14, H14, H⟩ := bind_some H
    refine cl ha (by rfl) (by kernel_rfl) (by rfl) (by rfl) (by rfl) (bytes_Clone.walk w9 _ hM a0 ao1 cap1 f1 _ H14) ?_
    rintro _ w14 ⟨ao15, cap15, rfl, f15, ne_i15, hc14, hMn⟩ a ha
    have o1 : Ok [] (M) w9.heap.size := Ok.nil _ _
    have o2 : Ok (blkL ao15 ++ (M)) (M) w9.heap.size := (Ok.app (fun x h => .inr (ne_i15 x h)) (Ok.refl _ _))
    have f1 := f1.chg hc14 o1 o2
    have p_i15_M : ∀ x ∈ blkL ao15, x ∉ M := fun x hx hy => absurd (hM x (hy)) (Nat.not_lt.2 (ne_i15 x hx))
    have e_i15 : ∀ x ∈ blkL ao15, w.heap.size ≤ x := fun x hx => Nat.le_trans hC.size (ne_i15 x hx)
    have hM : MS (blkL ao15 ++ (M)) w14 := (MS.app (fun x h => hMn x (ml h)) (hM.chg hc14))
    have hC := hC.trans hc14 (Ok.nil _ _)
    refine seg ha 1 [(1, .int .i64 a1), (2, .int .i64 a2), (8, .slice ao15 t14.length cap15)] (by kernel_rfl) fun a ha => ?_
    refine hK13 _ _ ?_; try clear hK13 K13
    refine wp_seq_k fun K16 hK16 => ?_
    refine wp_seq_k fun K17 hK17 => ?_
    refine wp_region_lit ?_
    refine seg ha 4 [(1, .int .i64 a1), (8, .slice ao15 t14.length cap15), (9, .int .i64 (IntKind.i64.wrap ((8 : Int) * (IntKind.i64.wrap (a2 - (1 : Int))))))] (by kernel_rfl) fun a ha => ?_
    refine hK17 _ _ ?_; try clear hK17 K17
    refine wp_block ?_
    obtain ⟨s18, H18, H⟩ := bind_some H
    have J18 : ∀ (a : Act) (wx18 : World) (ao22 : Option Addr) (cap22 : Nat), Has a Tryz.f69.ntmps [(8, .slice ao22 s18.length cap22)] → (Own (rInt .u8) 5 wx18 (blkL ao22 ++ (M)) ao22 cap22 s18) → (∀ x ∈ blkL ao22, w.heap.size ≤ x) → (∀ x ∈ blkL ao22, x ∉ M) → (Chg [] w wx18) → (MS (blkL ao22 ++ (M)) wx18) → K16 a wx18 := by
     intro a wx18 ao22 cap22 ha f22 e_i22 p_i22_M hC hM
     refine hK16 _ _ ?_; try clear hK16 K16
     refine wp_seq_k fun K23 hK23 => ?_
     refine wp_region_lit ?_
     refine seg ha 3 [(6, .slice ao22 s18.length cap22), (7, .int .i64 (0 : Int))] (by kernel_rfl) fun a ha => ?_
     refine hK23 _ _ ?_; try clear hK23 K23
     refine wp_ret ?_
     try simp only [Exit.then, Exit.inBlock]
     obtain rfl := Option.some.inj H
     refine rt2 ha rfl rfl rfl ?_
     exact ⟨ao22, cap22, rfl, f22, e_i22, hC, hM⟩
    have Hc18 := H
    have H := H18
    refine wp_loop_ghost (fun kk a w18 => ∃ (x20 : List Int) (x21 : Int) (ao19 : Option Addr) (cap19 : Nat), cursor_Put.l0 a1 kk x20 x21 = some s18 ∧ Has a Tryz.f69.ntmps [(1, .int .i64 a1), (8, .slice ao19 x20.length cap19), (9, .int .i64 x21)] ∧ (Own (rInt .u8) 5 w18 (blkL ao19 ++ (M)) ao19 cap19 x20) ∧ (∀ x ∈ blkL ao19, w.heap.size ≤ x) ∧ (∀ x ∈ blkL ao19, x ∉ M) ∧ (Chg [] w w18) ∧ (MS (blkL ao19 ++ (M)) w18)) k ?_ ?_
    ·skip
     exact ⟨t14, IntKind.i64.wrap ((8 : Int) * (IntKind.i64.wrap (a2 - (1 : Int)))), ao15, cap15, H, (ha.sel (by kernel_rfl)), f15, e_i15, p_i15_M, hC, hM⟩
    ·rintro kk a w18 ⟨x20, x21, ao19, cap19, H, ha, f19, e_i19, p_i19_M, hC, hM⟩
     obtain _ | kk := kk
     ·exact nomatch (show none = some _ from H)
     rw [cursor_Put.l0] at H
     refine wp_seq_k fun K24 hK24 => ?_
     refine wp_seq_k fun K25 hK25 => ?_
     refine wp_region_lit ?_
     refine seg ha 2 [(1, .int .i64 a1), (8, .slice ao19 x20.length cap19), (9, .int .i64 x21), (33, .bool (decide (x21 ≥ (0 : Int))))] (by kernel_rfl) fun a ha => ?_
     refine hK25 _ _ ?_; try clear hK25 K25
     refine cnd ha rfl (fun hc26 => ?_) (fun hc26 => ?_)
     ·have H := ite_t hc26 H
      refine wp_skip ?_
      refine hK24 _ _ ?_; try clear hK24 K24
      refine wp_seq_k fun K27 hK27 => ?_
      refine wp_block ?_
      refine wp_region_lit ?_
      refine seg ha 3 [(1, .int .i64 a1), (9, .int .i64 x21), (36, .slice ao19 x20.length cap19), (37, .int .i64 a1), (38, .int .i64 x21)] (by kernel_rfl) fun a ha => ?_
      obtain ⟨hx28, H⟩ := ite_some H
      refine hop (v := .int .i64 (Int.fdiv a1 (2 ^ (min (Int.toNat x21) IntKind.i64.bits)))) (w' := w18) ha rfl rfl rfl (shr_run ha (by rfl) (by rfl) hx28 _) fun a ha => ?_
      refine seg ha 1 [(1, .int .i64 a1), (9, .int .i64 x21), (36, .slice ao19 x20.length cap19), (40, .int .u8 (IntKind.u8.wrap (Int.fdiv a1 (2 ^ (min (Int.toNat x21) IntKind.i64.bits)))))] (by kernel_rfl) fun a ha => ?_
      refine bsl (vals := ([.int .u8 (IntKind.u8.wrap (Int.fdiv a1 (2 ^ (min (Int.toNat x21) IntKind.i64.bits))))] : List Value)) (T := 5) ha rfl (([.int .u8 (IntKind.u8.wrap (Int.fdiv a1 (2 ^ (min (Int.toNat x21) IntKind.i64.bits))))] : List Value) ++ ([] : List Value)) (fun w => by kernel_rfl) rfl rfl rfl fun a w29 g30 hN31 ha => ?_
      have o1 : Ok [] (blkL ao19 ++ (M)) w18.heap.size := Ok.nil _ _
      have o2 : Ok ([g30] ++ (blkL ao19 ++ (M))) (blkL ao19 ++ (M)) w18.heap.size := (Ok.app (hN31.ok _) (Ok.refl _ _))
      have f19 := f19.chg hN31.chg o1 o2 (fun _ _ h => nomatch h) (fun _ h => mr (ml h))
      have p_i32_i19 : ∀ x ∈ [g30], x ∉ (blkL ao19) := fun x hx hy => absurd (hM x (ml hy)) (Nat.not_lt.2 ((hN31.ge1) x hx))
      have p_i32_M : ∀ x ∈ [g30], x ∉ M := fun x hx hy => absurd (hM x (mr (hy))) (Nat.not_lt.2 ((hN31.ge1) x hx))
      have e_i32 : ∀ x ∈ [g30], w.heap.size ≤ x := fun x hx => Nat.le_trans hC.size ((hN31.ge1) x hx)
      have hM : MS ([g30] ++ (blkL ao19 ++ (M))) w29 := (MS.app hN31.ms (hM.chg hN31.chg))
      have hC := hC.trans hN31.chg (Ok.nil _ _)
      have f33 : Own (rInt .u8) 5 w29 ([g30] ++ (blkL ao19 ++ (M))) (some ⟨g30, 0, none⟩) 1 ([IntKind.u8.wrap (Int.fdiv a1 (2 ^ (min (Int.toNat x21) IntKind.i64.bits)))] : List Int) := hN31.own ⟨([.int .u8 (IntKind.u8.wrap (Int.fdiv a1 (2 ^ (min (Int.toNat x21) IntKind.i64.bits))))] : List Value), _, rfl, rfl, rfl⟩ (Nat.le_of_ble_eq_true rfl)
      obtain ⟨hx34, H⟩ := ite_some H
      refine app (r := (rInt .u8)) (xs := x20) (ys := ([IntKind.u8.wrap (Int.fdiv a1 (2 ^ (min (Int.toNat x21) IntKind.i64.bits)))] : List Int)) ha (ElemT.mk' (bytes := 1) (by kernel_rfl)) rfl rfl rfl rfl rfl f19 f33.src hx34 (by decide) fun a w35 ao36 cap36 hO36 hc36 hk36 hl36 ha => ?_
      have o1 : Ok (blkL ao19) ([g30] ++ (blkL ao19 ++ (M))) w29.heap.size := (fun _ h => .inl (mr (ml h)))
      have o2 : Ok (blkL ao36 ++ ([g30] ++ (M))) ([g30] ++ (blkL ao19 ++ (M))) w29.heap.size := (Ok.app (Ok.to hk36 (fun _ h => mr (ml h))) (Ok.app (fun _ h => .inl (ml h)) (fun _ h => .inl (mr (mr (h))))))
      have f33 := f33.chg hc36 o1 o2 p_i32_i19 (fun _ h => mr (ml h))
      have p_i36_i32 : ∀ x ∈ blkL ao36, x ∉ ([g30]) := fun x hx hy => (hk36 x hx).elim (fun h => (fun x hx hy => p_i32_i19 x hy hx) x h hy) (fun h => absurd (hM x (ml hy)) (Nat.not_lt.2 h))
      have p_i36_M : ∀ x ∈ blkL ao36, x ∉ M := fun x hx hy => (hk36 x hx).elim (fun h => p_i19_M x h hy) (fun h => absurd (hM x (mr (mr (hy)))) (Nat.not_lt.2 h))
      have e_i36 : ∀ x ∈ blkL ao36, w.heap.size ≤ x := fun x hx => (hk36 x hx).elim (e_i19 x) (Nat.le_trans hC.size)
      have hM : MS (blkL ao36 ++ ([g30] ++ (M))) w35 := (MS.app hl36 (MS.app (fun x h => hM.chg hc36 x (ml h)) (fun x h => hM.chg hc36 x (mr (mr (h))))))
      have hC := hC.trans hc36 (fun x h => .inr (e_i19 x h))
      have f36 := hO36.chg (M' := blkL ao36 ++ ([g30] ++ (M))) (Chg.refl [] _) (Ok.nil _ _) (Ok.app (fun _ h => .inl (ml h)) (Ok.to (Ok.app (fun _ h => .inl (ml h)) (fun _ h => .inl (mr (mr (h))))) (fun _ h => mr h))) (fun _ _ h => nomatch h) (fun _ h => ml h)
      refine seg ha 1 [(1, .int .i64 a1), (8, .slice ao36 (x20 ++ ([IntKind.u8.wrap (Int.fdiv a1 (2 ^ (min (Int.toNat x21) IntKind.i64.bits)))] : List Int)).length cap36), (9, .int .i64 x21)] (by kernel_rfl) fun a ha => ?_
      refine hK27 _ _ ?_; try clear hK27 K27
      refine wp_region_lit ?_
      refine seg ha 3 [(1, .int .i64 a1), (8, .slice ao36 (x20 ++ ([IntKind.u8.wrap (Int.fdiv a1 (2 ^ (min (Int.toNat x21) IntKind.i64.bits)))] : List Int)).length cap36), (9, .int .i64 (IntKind.i64.wrap (x21 - (8 : Int))))] (by kernel_rfl) fun a ha => ?_
      have o1 : Ok [] (blkL ao36 ++ ([g30] ++ (M))) w35.heap.size := Ok.nil _ _
      have o2 : Ok (blkL ao36 ++ (M)) (blkL ao36 ++ ([g30] ++ (M))) w35.heap.size := (Ok.app (fun _ h => .inl (ml h)) (fun _ h => .inl (mr (mr (h)))))
      have f36 := f36.chg (Chg.refl [] _) o1 o2 (fun _ _ h => nomatch h) (fun _ h => ml h)
      have hM : MS (blkL ao36 ++ (M)) w35 := (MS.app (fun x h => hM.chg (Chg.refl [] _) x (ml h)) (fun x h => hM.chg (Chg.refl [] _) x (mr (mr (h)))))
      have hC := hC.trans (Chg.refl [] _) (Ok.nil _ _)
      exact ⟨kk, Nat.lt_succ_self _, ⟨(x20 ++ ([IntKind.u8.wrap (Int.fdiv a1 (2 ^ (min (Int.toNat x21) IntKind.i64.bits)))] : List Int)), IntKind.i64.wrap (x21 - (8 : Int)), ao36, cap36, H, (ha.sel (by kernel_rfl)), f36, e_i36, p_i36_M, hC, hM⟩⟩
     ·have H := ite_f hc26 H
      refine wp_exit ?_
      simp only [Exit.then, Exit.inBlock, ↓reduceIte, Nat.reduceEqDiff]
      obtain rfl := Option.some.inj H
      exact J18 _ _ ao19 cap19 (ha.sel (by kernel_rfl)) f19 e_i19 p_i19_M hC hM
  have H := H9
  refine seg ha 3 [(20, .bool (decide (a1 < (0 : Int)))), (0, .slice ao1 a0.length cap1), (1, .int .i64 a1), (2, .int .i64 a2)] (by kernel_rfl) fun a ha => ?_
  rcases Bool.eq_false_or_eq_true (decide (a1 < (0 : Int))) with hb37 | hb37
  ·have ha := ha.lit hb37
   have H := ite_t hb37 H
   refine sgh ha 7 [1, 1, 1, 1, 1, 3, 0] [(0, .slice ao1 a0.length cap1), (1, .int .i64 a1), (2, .int .i64 a2), (17, .bool true)] (by kernel_rfl) fun a ha => ?_
   obtain rfl := Option.some.inj H
   exact J9 _ _ (ha.sel (by kernel_rfl)) f1 hC hM
  ·have ha := ha.lit hb37
   have H := ite_f hb37 H
   refine sgh ha 3 [2, 2, 2] [(0, .slice ao1 a0.length cap1), (1, .int .i64 a1), (2, .int .i64 a2), (20, .bool false), (21, .int .i64 a1), (23, .int .i64 (IntKind.i64.wrap ((8 : Int) * a2)))] (by kernel_rfl) fun a ha => ?_
   obtain ⟨hx38, H⟩ := ite_some H
   refine hop (v := .int .i64 (Int.fdiv a1 (2 ^ (min (Int.toNat (IntKind.i64.wrap ((8 : Int) * a2))) IntKind.i64.bits)))) (w' := w) ha rfl rfl rfl (shr_run ha (by rfl) (by rfl) hx38 _) fun a ha => ?_
   refine sgh ha 3 [2, 4, 0] [(0, .slice ao1 a0.length cap1), (1, .int .i64 a1), (2, .int .i64 a2), (17, .bool ((Int.fdiv a1 (2 ^ (min (Int.toNat (IntKind.i64.wrap ((8 : Int) * a2))) IntKind.i64.bits))) != (0 : Int)))] (by kernel_rfl) fun a ha => ?_
   obtain rfl := Option.some.inj H
   exact J9 _ _ (ha.sel (by kernel_rfl)) f1 hC hM
def rd_Make.f (k : Nat) (a0 : Int) (a1 : Int) (a2 : Int) : Option (List Int × Int) := (rd_highSize.f a0).bind fun t7 => (if (!t7.2) = true then some ((([(0 : Int), (0 : Int), (0 : Int), (0 : Int), (0 : Int), (0 : Int), (0 : Int), (0 : Int)] : List Int) : List Int), ((1 : Int) : Int)) else (cursor_Put.f k ([] : List Int) a0 (2 : Int)).bind fun t15 => (cursor_Put.f k t15.1 a1 t7.1).bind fun t18 => ((if (t18.2 == (0 : Int)) = true then (cursor_Put.f k t18.1 a2 (IntKind.i64.wrap ((6 : Int) - t7.1))).bind fun t42 => some ((t42.1 : List Int), (t42.2 : Int)) else some ((t18.1 : List Int), (t18.2 : Int)))).bind fun s21 => (if (s21.2 != (0 : Int)) = true then some ((([(0 : Int), (0 : Int), (0 : Int), (0 : Int), (0 : Int), (0 : Int), (0 : Int), (0 : Int)] : List Int) : List Int), (s21.2 : Int)) else some (((arC 8 (List.replicate 8 (0 : Int)) s21.1) : List Int), ((0 : Int) : Int))))
set_option maxRecDepth 100000 in
theorem rd_Make.walk (w : World) (M : List Nat) (hM : MS M w) (a0 : Int) (a1 : Int) (a2 : Int) (k : Nat) (r : List Int × Int) (H : rd_Make.f k a0 a1 a2 = some r) :
    To Tryz.prog 29 [.int .i64 a0, .int .i64 a1, .int .i64 a2] w fun v w' => v = .tuple #[.agg (cA .u8 8 r.1).toArray, .int .i64 r.2] ∧ Chg [] w w' ∧ MS (M) w' := by
 unfold rd_Make.f at H
 refine ent Tryz.func29 rfl [(0, .int .i64 a0), (1, .int .i64 a1), (2, .int .i64 a2)] rfl (by rfl) fun a ha => ?_
 have hC : Chg [] w w := Chg.refl _ _
 refine wp_seq_k fun K1 hK1 => ?_
 refine wp_region_lit ?_
 refine al (cs := (cA .u8 8 (List.replicate 8 (0 : Int)))) (z := .agg (cA .u8 8 (List.replicate 8 (0 : Int))).toArray) ha (fun w => by kernel_rfl) rfl rfl rfl rfl fun a w2 g3 hN4 ha => ?_
 have p_i5_M : ∀ x ∈ [g3], x ∉ M := fun x hx hy => absurd (hM x (hy)) (Nat.not_lt.2 ((hN4.ge1) x hx))
 have e_i5 : ∀ x ∈ [g3], w.heap.size ≤ x := fun x hx => Nat.le_trans hC.size ((hN4.ge1) x hx)
 have hM : MS ([g3] ++ (M)) w2 := (MS.app hN4.ms (hM.chg hN4.chg))
 have hC := hC.trans hN4.chg (Ok.nil _ _)
 have hBg3 : Box w2 g3 (cA .u8 8 (List.replicate 8 (0 : Int))) := hN4.box
 refine seg ha 1 [(0, .int .i64 a0), (1, .int .i64 a1), (2, .int .i64 a2), (6, .pointer (some ⟨g3, 0, none⟩))] (by kernel_rfl) fun a ha => ?_
 refine hK1 _ _ ?_; try clear hK1 K1
 refine wp_seq_k fun K6 hK6 => ?_
 refine wp_region_lit ?_
 refine seg ha 1 [(0, .int .i64 a0), (1, .int .i64 a1), (2, .int .i64 a2), (6, .pointer (some ⟨g3, 0, none⟩)), (15, .int .i64 a0)] (by kernel_rfl) fun a ha => ?_
 obtain ⟨t7, H7, H⟩ := bind_some H
 refine cl ha (by rfl) (by kernel_rfl) (by rfl) (by rfl) (by rfl) (rd_highSize.walk w2 _ hM a0 _ H7) ?_
 rintro _ w7 ⟨rfl, hc7, hMn⟩ a ha
 have hBg3 := hBg3.chg hc7 (fun h => nomatch h)
 have hM : MS ([g3] ++ (M)) w7 := (hM.chg hc7)
 have hC := hC.trans hc7 (Ok.nil _ _)
 refine seg ha 5 [(0, .int .i64 a0), (1, .int .i64 a1), (2, .int .i64 a2), (6, .pointer (some ⟨g3, 0, none⟩)), (8, .int .i64 t7.1), (9, .bool t7.2)] (by kernel_rfl) fun a ha => ?_
 refine hK6 _ _ ?_; try clear hK6 K6
 refine wp_seq_k fun K8 hK8 => ?_
 refine wp_seq_k fun K9 hK9 => ?_
 refine wp_region_lit ?_
 refine seg ha 2 [(0, .int .i64 a0), (1, .int .i64 a1), (2, .int .i64 a2), (6, .pointer (some ⟨g3, 0, none⟩)), (8, .int .i64 t7.1), (20, .bool (!t7.2))] (by kernel_rfl) fun a ha => ?_
 refine hK9 _ _ ?_; try clear hK9 K9
 refine cnd ha rfl (fun hc10 => ?_) (fun hc10 => ?_)
 ·have H := ite_t hc10 H
  refine wp_seq_k fun K11 hK11 => ?_
  refine wp_region_lit ?_
  refine opk (v := .agg (cA .u8 8 ([(0 : Int), (0 : Int), (0 : Int), (0 : Int), (0 : Int), (0 : Int), (0 : Int), (0 : Int)] : List Int)).toArray) ha rfl rfl rfl rfl rfl (fun w => by kernel_rfl) fun a ha => ?_
  refine stA (l := (cA .u8 8 ([(0 : Int), (0 : Int), (0 : Int), (0 : Int), (0 : Int), (0 : Int), (0 : Int), (0 : Int)] : List Int))) ha rfl rfl rfl (by kernel_rfl) rfl rfl hBg3 rfl fun a w12 ha hb2 hc13 _ => ?_
  have hM : MS ([g3] ++ (M)) w12 := (hM.chg hc13)
  have hC := hC.trans hc13 (fun x h => .inr (e_i5 x h))
  have hBg3 : Box w12 g3 (cA .u8 8 ([(0 : Int), (0 : Int), (0 : Int), (0 : Int), (0 : Int), (0 : Int), (0 : Int), (0 : Int)] : List Int)) := hb2
  refine seg ha 1 [(6, .pointer (some ⟨g3, 0, none⟩)), (7, .int .i64 (1 : Int))] (by kernel_rfl) fun a ha => ?_
  refine hK11 _ _ ?_; try clear hK11 K11
  refine wp_ret ?_
  try simp only [Exit.then, Exit.inBlock]
  have hBg3 := hBg3.chg (Chg.refl [] _) (fun h => nomatch h)
  have hM : MS (M) w12 := (fun x h => hM.chg (Chg.refl [] _) x (mr (h)))
  have hC := hC.trans (Chg.refl [] _) (Ok.nil _ _)
  obtain rfl := Option.some.inj H
  refine rtr ha (res2 rfl (roA ha rfl hBg3 (by kernel_rfl)) (roT ha rfl)) ?_
  exact ⟨rfl, hC, hM⟩
 ·have H := ite_f hc10 H
  refine wp_skip ?_
  refine hK8 _ _ ?_; try clear hK8 K8
  refine wp_seq_k fun K14 hK14 => ?_
  refine wp_region_lit ?_
  refine seg ha 1 [(1, .int .i64 a1), (2, .int .i64 a2), (6, .pointer (some ⟨g3, 0, none⟩)), (8, .int .i64 t7.1), (23, .int .i64 a0)] (by kernel_rfl) fun a ha => ?_
  obtain ⟨t15, H15, H⟩ := bind_some H
  refine cl ha (by rfl) (by kernel_rfl) (by rfl) (by rfl) (by rfl) (cursor_Put.walk w7 _ hM ([] : List Int) none 0 (RSl.nil (Nat.zero_le _)) a0 (2 : Int) k _ H15) ?_
  rintro _ w15 ⟨ao16, cap16, rfl, f16, ne_i16, hc15, hMn⟩ a ha
  have hBg3 := hBg3.chg hc15 (fun h => nomatch h)
  have p_i16_i5 : ∀ x ∈ blkL ao16, x ∉ ([g3]) := fun x hx hy => absurd (hM x (ml hy)) (Nat.not_lt.2 (ne_i16 x hx))
  have p_i16_M : ∀ x ∈ blkL ao16, x ∉ M := fun x hx hy => absurd (hM x (mr (hy))) (Nat.not_lt.2 (ne_i16 x hx))
  have e_i16 : ∀ x ∈ blkL ao16, w.heap.size ≤ x := fun x hx => Nat.le_trans hC.size (ne_i16 x hx)
  have hM : MS (blkL ao16 ++ ([g3] ++ (M))) w15 := (MS.app (fun x h => hMn x (ml h)) (hM.chg hc15))
  have hC := hC.trans hc15 (Ok.nil _ _)
  refine seg ha 5 [(1, .int .i64 a1), (2, .int .i64 a2), (6, .pointer (some ⟨g3, 0, none⟩)), (8, .int .i64 t7.1), (10, .slice ao16 t15.1.length cap16)] (by kernel_rfl) fun a ha => ?_
  refine hK14 _ _ ?_; try clear hK14 K14
  refine wp_seq_k fun K17 hK17 => ?_
  refine wp_region_lit ?_
  refine seg ha 3 [(2, .int .i64 a2), (6, .pointer (some ⟨g3, 0, none⟩)), (8, .int .i64 t7.1), (28, .slice ao16 t15.1.length cap16), (29, .int .i64 a1), (30, .int .i64 t7.1)] (by kernel_rfl) fun a ha => ?_
  have hML : MS ([g3] ++ (M)) w15 := MS.rest hM (fun _ h => (List.mem_append.1 h).elim (fun h => mr (ml h)) (fun h => mr (mr (h))))
  have oL : Ok ([g3] ++ (M)) (blkL ao16 ++ ([g3] ++ (M))) w15.heap.size := (fun _ h => .inl (mr (h)))
  obtain ⟨t18, H18, H⟩ := bind_some H
  refine cl ha (by rfl) (by kernel_rfl) (by rfl) (by rfl) (by rfl) (cursor_Put.walk w15 _ hML t15.1 ao16 cap16 (Own.toRSl (M' := [g3] ++ (M)) f16 oL (fun x hx hm => (List.mem_append.1 hm).elim (fun h => p_i16_i5 x hx h) (fun h => p_i16_M x hx h))) a1 t7.1 k _ H18) ?_
  rintro _ w18 ⟨ao19, cap19, rfl, f19, ne_i19, hc18, hMn⟩ a ha
  have o1 : Ok [] (blkL ao16 ++ ([g3] ++ (M))) w15.heap.size := Ok.nil _ _
  have o2 : Ok (blkL ao19 ++ (blkL ao16 ++ ([g3] ++ (M)))) (blkL ao16 ++ ([g3] ++ (M))) w15.heap.size := (Ok.app (fun x h => .inr (ne_i19 x h)) (Ok.refl _ _))
  have f16 := f16.chg hc18 o1 o2 (fun _ _ h => nomatch h) (fun _ h => mr (ml h))
  have hBg3 := hBg3.chg hc18 (fun h => nomatch h)
  have p_i19_i16 : ∀ x ∈ blkL ao19, x ∉ (blkL ao16) := fun x hx hy => absurd (hM x (ml hy)) (Nat.not_lt.2 (ne_i19 x hx))
  have p_i19_i5 : ∀ x ∈ blkL ao19, x ∉ ([g3]) := fun x hx hy => absurd (hM x (mr (ml hy))) (Nat.not_lt.2 (ne_i19 x hx))
  have p_i19_M : ∀ x ∈ blkL ao19, x ∉ M := fun x hx hy => absurd (hM x (mr (mr (hy)))) (Nat.not_lt.2 (ne_i19 x hx))
  have e_i19 : ∀ x ∈ blkL ao19, w.heap.size ≤ x := fun x hx => Nat.le_trans hC.size (ne_i19 x hx)
  have hM : MS (blkL ao19 ++ (blkL ao16 ++ ([g3] ++ (M)))) w18 := (MS.app (fun x h => hMn x (ml h)) (hM.chg hc18))
  have hC := hC.trans hc18 (Ok.nil _ _)
  have f19 := Own.re (M' := blkL ao19 ++ (blkL ao16 ++ ([g3] ++ (M)))) (fun _ _ _ _ _ h => h) f19 (fun _ h => ml h)
  refine seg ha 5 [(2, .int .i64 a2), (6, .pointer (some ⟨g3, 0, none⟩)), (8, .int .i64 t7.1), (10, .slice ao19 t18.1.length cap19), (12, .int .i64 t18.2)] (by kernel_rfl) fun a ha => ?_
  refine hK17 _ _ ?_; try clear hK17 K17
  refine wp_seq_k fun K20 hK20 => ?_
  obtain ⟨s21, H21, H⟩ := bind_some H
  have J21 : ∀ (a : Act) (w21 : World) (ao22 : Option Addr) (cap22 : Nat), Has a Tryz.f29.ntmps [(6, .pointer (some ⟨g3, 0, none⟩)), (10, .slice ao22 s21.1.length cap22), (12, .int .i64 s21.2)] → (Own (rInt .u8) 5 w21 (blkL ao22 ++ ([g3] ++ (M))) ao22 cap22 s21.1) → (Box w21 g3 (cA .u8 8 (List.replicate 8 (0 : Int)))) → (∀ x ∈ blkL ao22, w.heap.size ≤ x) → (∀ x ∈ blkL ao22, x ∉ [g3]) → (∀ x ∈ blkL ao22, x ∉ M) → (Chg [] w w21) → (MS (blkL ao22 ++ ([g3] ++ (M))) w21) → K20 a w21 := by
   intro a w21 ao22 cap22 ha f22 hBg3 e_i22 p_i22_i5 p_i22_M hC hM
   refine hK20 _ _ ?_; try clear hK20 K20
   refine wp_seq_k fun K23 hK23 => ?_
   refine wp_seq_k fun K24 hK24 => ?_
   refine wp_region_lit ?_
   refine seg ha 2 [(6, .pointer (some ⟨g3, 0, none⟩)), (10, .slice ao22 s21.1.length cap22), (12, .int .i64 s21.2), (45, .bool (s21.2 != (0 : Int)))] (by kernel_rfl) fun a ha => ?_
   refine hK24 _ _ ?_; try clear hK24 K24
   refine cnd ha rfl (fun hc25 => ?_) (fun hc25 => ?_)
   ·have H := ite_t hc25 H
    refine wp_seq_k fun K26 hK26 => ?_
    refine wp_region_lit ?_
    refine opk (v := .agg (cA .u8 8 ([(0 : Int), (0 : Int), (0 : Int), (0 : Int), (0 : Int), (0 : Int), (0 : Int), (0 : Int)] : List Int)).toArray) ha rfl rfl rfl rfl rfl (fun w => by kernel_rfl) fun a ha => ?_
    refine seg ha 1 [(6, .pointer (some ⟨g3, 0, none⟩)), (46, .agg (cA .u8 8 ([(0 : Int), (0 : Int), (0 : Int), (0 : Int), (0 : Int), (0 : Int), (0 : Int), (0 : Int)] : List Int)).toArray), (47, .int .i64 s21.2)] (by kernel_rfl) fun a ha => ?_
    refine stA (l := (cA .u8 8 ([(0 : Int), (0 : Int), (0 : Int), (0 : Int), (0 : Int), (0 : Int), (0 : Int), (0 : Int)] : List Int))) ha rfl rfl rfl (by kernel_rfl) rfl rfl hBg3 rfl fun a w27 ha hb2 hc28 _ => ?_
    have hM : MS (blkL ao22 ++ ([g3] ++ (M))) w27 := (hM.chg hc28)
    have hC := hC.trans hc28 (fun x h => .inr (e_i5 x h))
    have hBg3 : Box w27 g3 (cA .u8 8 ([(0 : Int), (0 : Int), (0 : Int), (0 : Int), (0 : Int), (0 : Int), (0 : Int), (0 : Int)] : List Int)) := hb2
    refine seg ha 1 [(6, .pointer (some ⟨g3, 0, none⟩)), (7, .int .i64 s21.2)] (by kernel_rfl) fun a ha => ?_
    refine hK26 _ _ ?_; try clear hK26 K26
    refine wp_ret ?_
    try simp only [Exit.then, Exit.inBlock]
    have hBg3 := hBg3.chg (Chg.refl [] _) (fun h => nomatch h)
    have hM : MS (M) w27 := (fun x h => hM.chg (Chg.refl [] _) x (mr (mr (h))))
    have hC := hC.trans (Chg.refl [] _) (Ok.nil _ _)
    obtain rfl := Option.some.inj H
    refine rtr ha (res2 rfl (roA ha rfl hBg3 (by kernel_rfl)) (roT ha rfl)) ?_
    exact ⟨rfl, hC, hM⟩
   ·have H := ite_f hc25 H
    refine wp_skip ?_
    refine hK23 _ _ ?_; try clear hK23 K23
    refine wp_seq_k fun K29 hK29 => ?_
    refine wp_region_lit ?_
    refine al (cs := (cA .u8 8 (List.replicate 8 (0 : Int)))) (z := .agg (cA .u8 8 (List.replicate 8 (0 : Int))).toArray) ha (fun w => by kernel_rfl) rfl rfl rfl rfl fun a w30 g31 hN32 ha => ?_
    have o1 : Ok [] (blkL ao22 ++ ([g3] ++ (M))) w21.heap.size := Ok.nil _ _
    have o2 : Ok ([g31] ++ (blkL ao22 ++ ([g3] ++ (M)))) (blkL ao22 ++ ([g3] ++ (M))) w21.heap.size := (Ok.app (hN32.ok _) (Ok.refl _ _))
    have f22 := f22.chg hN32.chg o1 o2 (fun _ _ h => nomatch h) (fun _ h => mr (ml h))
    have hBg3 := hBg3.chg hN32.chg (fun h => nomatch h)
    have p_i33_i22 : ∀ x ∈ [g31], x ∉ (blkL ao22) := fun x hx hy => absurd (hM x (ml hy)) (Nat.not_lt.2 ((hN32.ge1) x hx))
    have p_i33_i5 : ∀ x ∈ [g31], x ∉ ([g3]) := fun x hx hy => absurd (hM x (mr (ml hy))) (Nat.not_lt.2 ((hN32.ge1) x hx))
    have p_i33_M : ∀ x ∈ [g31], x ∉ M := fun x hx hy => absurd (hM x (mr (mr (hy)))) (Nat.not_lt.2 ((hN32.ge1) x hx))
    have e_i33 : ∀ x ∈ [g31], w.heap.size ≤ x := fun x hx => Nat.le_trans hC.size ((hN32.ge1) x hx)
    have hM : MS ([g31] ++ (blkL ao22 ++ ([g3] ++ (M)))) w30 := (MS.app hN32.ms (hM.chg hN32.chg))
    have hC := hC.trans hN32.chg (Ok.nil _ _)
    have hBg31 : Box w30 g31 (cA .u8 8 (List.replicate 8 (0 : Int))) := hN32.box
    refine hK29 _ _ ?_; try clear hK29 K29
    refine wp_seq_k fun K34 hK34 => ?_
    refine wp_region_lit ?_
    refine opk (v := .slice (some ⟨g31, 0, none⟩) 8 8) ha rfl rfl rfl rfl rfl (fun w => by kernel_rfl) fun a ha => ?_
    refine seg ha 1 [(6, .pointer (some ⟨g3, 0, none⟩)), (13, .pointer (some ⟨g31, 0, none⟩)), (48, .slice (some ⟨g31, 0, none⟩) 8 8), (49, .slice ao22 s21.1.length cap22)] (by kernel_rfl) fun a ha => ?_
    refine cpyA (T := 5) (k := .u8) (x0 := (List.replicate 8 (0 : Int))) (N := 8) ([] : List Value) ([] : List Value) ha (by kernel_rfl) (by kernel_rfl) rfl rfl rfl rfl rfl hBg31 (by kernel_rfl) (Own.toRSl (M' := []) f22 (Ok.nil _ _) (fun _ _ h => nomatch h)) fun a w35 hb2 hc36 ha => ?_
    have o1 : Ok [g31] ([g31] ++ (blkL ao22 ++ ([g3] ++ (M)))) w30.heap.size := (fun _ h => .inl (ml h))
    have o2 : Ok ([g31] ++ (blkL ao22 ++ ([g3] ++ (M)))) ([g31] ++ (blkL ao22 ++ ([g3] ++ (M)))) w30.heap.size := (Ok.refl _ _)
    have f22 := f22.chg hc36 o1 o2 (fun x (hx : x ∈ blkL ao22) (hy : x ∈ [g31]) => p_i33_i22 x hy hx) (fun _ h => mr (ml h))
    have hBg3 := hBg3.chg hc36 ((fun x (hx : x ∈ [g3]) (hy : x ∈ [g31]) => p_i33_i5 x hy hx) g3 (by simp))
    have hM : MS ([g31] ++ (blkL ao22 ++ ([g3] ++ (M)))) w35 := (hM.chg hc36)
    have hC := hC.trans hc36 (fun x h => .inr (e_i33 x h))
    have hBg31 : Box w35 g31 (cA .u8 8 (arC 8 (List.replicate 8 (0 : Int)) s21.1)) := hb2.cast (by kernel_rfl)
    refine hK34 _ _ ?_; try clear hK34 K34
    refine wp_seq_k fun K37 hK37 => ?_
    refine wp_region_lit ?_
    refine ldA (cs := (cA .u8 8 (arC 8 (List.replicate 8 (0 : Int)) s21.1))) ha rfl (by kernel_rfl) rfl rfl rfl (cells_sub (Box.cells hBg31) (all := (cA .u8 8 (arC 8 (List.replicate 8 (0 : Int)) s21.1))) [] [] (by kernel_rfl)) fun a ha => ?_
    refine stA (l := (cA .u8 8 (arC 8 (List.replicate 8 (0 : Int)) s21.1))) ha rfl rfl rfl (by kernel_rfl) rfl rfl hBg3 rfl fun a w38 ha hb2 hc39 _ => ?_
    have hBg31 := hBg31.chg hc39 (p_i33_i5 g31 (by simp))
    have hM : MS ([g31] ++ (blkL ao22 ++ ([g3] ++ (M)))) w38 := (hM.chg hc39)
    have hC := hC.trans hc39 (fun x h => .inr (e_i5 x h))
    have hBg3 : Box w38 g3 (cA .u8 8 (arC 8 (List.replicate 8 (0 : Int)) s21.1)) := hb2
    refine seg ha 1 [(6, .pointer (some ⟨g3, 0, none⟩)), (7, .int .i64 (0 : Int))] (by kernel_rfl) fun a ha => ?_
    refine hK37 _ _ ?_; try clear hK37 K37
    refine wp_ret ?_
    try simp only [Exit.then, Exit.inBlock]
    have hBg3 := hBg3.chg (Chg.refl [] _) (fun h => nomatch h)
    have hBg31 := hBg31.chg (Chg.refl [] _) (fun h => nomatch h)
    have hM : MS (M) w38 := (fun x h => hM.chg (Chg.refl [] _) x (mr (mr (mr (h)))))
    have hC := hC.trans (Chg.refl [] _) (Ok.nil _ _)
    obtain rfl := Option.some.inj H
    refine rtr ha (res2 rfl (roA ha rfl hBg3 (by kernel_rfl)) (roT ha rfl)) ?_
    exact ⟨rfl, hC, hM⟩
  have H := H21
  refine wp_seq_k fun K40 hK40 => ?_
  refine wp_region_lit ?_
  refine seg ha 2 [(2, .int .i64 a2), (6, .pointer (some ⟨g3, 0, none⟩)), (8, .int .i64 t7.1), (10, .slice ao19 t18.1.length cap19), (12, .int .i64 t18.2), (35, .bool (t18.2 == (0 : Int)))] (by kernel_rfl) fun a ha => ?_
  refine hK40 _ _ ?_; try clear hK40 K40
  refine cnd ha rfl (fun hc41 => ?_) (fun hc41 => ?_)
  ·have H := ite_t hc41 H
   refine wp_region_lit ?_
   refine seg ha 4 [(6, .pointer (some ⟨g3, 0, none⟩)), (37, .slice ao19 t18.1.length cap19), (38, .int .i64 a2), (40, .int .i64 (IntKind.i64.wrap ((6 : Int) - t7.1)))] (by kernel_rfl) fun a ha => ?_
   have hML : MS (blkL ao16 ++ ([g3] ++ (M))) w18 := MS.rest hM (fun _ h => (List.mem_append.1 h).elim (fun h => mr (ml h)) (fun h => (List.mem_append.1 h).elim (fun h => mr (mr (ml h))) (fun h => mr (mr (mr (h))))))
   have oL : Ok (blkL ao16 ++ ([g3] ++ (M))) (blkL ao19 ++ (blkL ao16 ++ ([g3] ++ (M)))) w18.heap.size := (fun _ h => .inl (mr (h)))
   obtain ⟨t42, H42, H⟩ := bind_some H
   refine cl ha (by rfl) (by kernel_rfl) (by rfl) (by rfl) (by rfl) (cursor_Put.walk w18 _ hML t18.1 ao19 cap19 (Own.toRSl (M' := blkL ao16 ++ ([g3] ++ (M))) f19 oL (fun x hx hm => (List.mem_append.1 hm).elim (fun h => p_i19_i16 x hx h) (fun h => (List.mem_append.1 h).elim (fun h => p_i19_i5 x hx h) (fun h => p_i19_M x hx h)))) a2 (IntKind.i64.wrap ((6 : Int) - t7.1)) k _ H42) ?_
   rintro _ w42 ⟨ao43, cap43, rfl, f43, ne_i43, hc42, hMn⟩ a ha
   have o1 : Ok [] (blkL ao19 ++ (blkL ao16 ++ ([g3] ++ (M)))) w18.heap.size := Ok.nil _ _
   have o2 : Ok (blkL ao43 ++ (blkL ao19 ++ (blkL ao16 ++ ([g3] ++ (M))))) (blkL ao19 ++ (blkL ao16 ++ ([g3] ++ (M)))) w18.heap.size := (Ok.app (fun x h => .inr (ne_i43 x h)) (Ok.refl _ _))
   have f19 := f19.chg hc42 o1 o2 (fun _ _ h => nomatch h) (fun _ h => mr (ml h))
   have hBg3 := hBg3.chg hc42 (fun h => nomatch h)
   have p_i43_i19 : ∀ x ∈ blkL ao43, x ∉ (blkL ao19) := fun x hx hy => absurd (hM x (ml hy)) (Nat.not_lt.2 (ne_i43 x hx))
   have p_i43_i16 : ∀ x ∈ blkL ao43, x ∉ (blkL ao16) := fun x hx hy => absurd (hM x (mr (ml hy))) (Nat.not_lt.2 (ne_i43 x hx))
   have p_i43_i5 : ∀ x ∈ blkL ao43, x ∉ ([g3]) := fun x hx hy => absurd (hM x (mr (mr (ml hy)))) (Nat.not_lt.2 (ne_i43 x hx))
   have p_i43_M : ∀ x ∈ blkL ao43, x ∉ M := fun x hx hy => absurd (hM x (mr (mr (mr (hy))))) (Nat.not_lt.2 (ne_i43 x hx))
   have e_i43 : ∀ x ∈ blkL ao43, w.heap.size ≤ x := fun x hx => Nat.le_trans hC.size (ne_i43 x hx)
   have hM : MS (blkL ao43 ++ (blkL ao19 ++ (blkL ao16 ++ ([g3] ++ (M))))) w42 := (MS.app (fun x h => hMn x (ml h)) (hM.chg hc42))
   have hC := hC.trans hc42 (Ok.nil _ _)
   have f43 := Own.re (M' := blkL ao43 ++ (blkL ao19 ++ (blkL ao16 ++ ([g3] ++ (M))))) (fun _ _ _ _ _ h => h) f43 (fun _ h => ml h)
   refine seg ha 5 [(6, .pointer (some ⟨g3, 0, none⟩)), (10, .slice ao43 t42.1.length cap43), (12, .int .i64 t42.2)] (by kernel_rfl) fun a ha => ?_
   obtain rfl := Option.some.inj H
   have o1 : Ok [] (blkL ao43 ++ (blkL ao19 ++ (blkL ao16 ++ ([g3] ++ (M))))) w42.heap.size := Ok.nil _ _
   have o2 : Ok (blkL ao43 ++ ([g3] ++ (M))) (blkL ao43 ++ (blkL ao19 ++ (blkL ao16 ++ ([g3] ++ (M))))) w42.heap.size := (Ok.app (fun _ h => .inl (ml h)) (fun _ h => .inl (mr (mr (mr (h))))))
   have f43 := f43.chg (Chg.refl [] _) o1 o2 (fun _ _ h => nomatch h) (fun _ h => ml h)
   have hBg3 := hBg3.chg (Chg.refl [] _) (fun h => nomatch h)
   have hM : MS (blkL ao43 ++ ([g3] ++ (M))) w42 := (MS.app (fun x h => hM.chg (Chg.refl [] _) x (ml h)) (fun x h => hM.chg (Chg.refl [] _) x (mr (mr (mr (h))))))
   have hC := hC.trans (Chg.refl [] _) (Ok.nil _ _)
   exact J21 _ _ ao43 cap43 (ha.sel (by kernel_rfl)) f43 hBg3 e_i43 p_i43_i5 p_i43_M hC hM
  ·have H := ite_f hc41 H
   refine wp_skip ?_
   obtain rfl := Option.some.inj H
   have o1 : Ok [] (blkL ao19 ++ (blkL ao16 ++ ([g3] ++ (M)))) w18.heap.size := Ok.nil _ _
   have o2 : Ok (blkL ao19 ++ ([g3] ++ (M))) (blkL ao19 ++ (blkL ao16 ++ ([g3] ++ (M)))) w18.heap.size := (Ok.app (fun _ h => .inl (ml h)) (fun _ h => .inl (mr (mr (h)))))
   have f19 := f19.chg (Chg.refl [] _) o1 o2 (fun _ _ h => nomatch h) (fun _ h => ml h)
   have hBg3 := hBg3.chg (Chg.refl [] _) (fun h => nomatch h)
   have hM : MS (blkL ao19 ++ ([g3] ++ (M))) w18 := (MS.app (fun x h => hM.chg (Chg.refl [] _) x (ml h)) (fun x h => hM.chg (Chg.refl [] _) x (mr (mr (h)))))
   have hC := hC.trans (Chg.refl [] _) (Ok.nil _ _)
   exact J21 _ _ ao19 cap19 (ha.sel (by kernel_rfl)) f19 hBg3 e_i19 p_i19_i5 p_i19_M hC hM

def strings_Split.f (a0 a1 : List UInt8) : Option (List (List UInt8)) := if a0.length < 4294967281 ∧ 1 ≤ a1.length ∧ Lib.countB (bstr a0) (bstr a1) + 1 ≤ 4294967296 then some ((Lib.splitB (bstr a1) 0 (Lib.countB (bstr a0) (bstr a1)) (bstr a0)).map (·.data.toList)) else none
theorem rl_strs {w : World} {M : List Nat} : ∀ (l : List ByteArray), RL rStr w M (l.map Value.string) (l.map (·.data.toList))
  | [] => rfl
  | x :: l => ⟨[.string x], l.map Value.string, rfl, by show _ = [Value.string (bstr x.data.toList)]; simp [bstr], rl_strs l⟩
theorem strings_Split.walk (w : World) (M : List Nat) (hM : MS M w) (hG : GF w M) (a0 a1 : List UInt8) (r : List (List UInt8)) (H : strings_Split.f a0 a1 = some r) :
    To Tryz.prog 30 [.string (bstr a0), .string (bstr a1)] w fun v w' => ∃ (ao2 : Option Addr) (cap2 : Nat), v = .slice ao2 r.length cap2 ∧ (Own rStr 9 w' (blkL ao2 ++ M) ao2 cap2 r) ∧ (∀ x ∈ blkL ao2, w.heap.size ≤ x) ∧ Chg [] w w' ∧ MS (blkL ao2 ++ M) w' := by
  unfold strings_Split.f at H
  obtain ⟨⟨h0, h1, h2⟩, H⟩ := ite_some H
  obtain rfl := Option.some.inj H
  obtain ⟨m, hm⟩ := hG.2.2.1
  have e1 : 1 ≤ (bstr a1).size := by simpa [bstr, ByteArray.size] using h1
  have h := Tryz.strings_Split (bstr a0) (bstr a1) m w h0 hm e1
  have hl := Lib.splitB_all (bstr a1) e1 0 _ (bstr a0) rfl
  generalize hls : Lib.splitB (bstr a1) 0 (Lib.countB (bstr a0) (bstr a1)) (bstr a0) = l at h hl ⊢
  refine Calls.mono h ?_
  rintro e w' ⟨rfl, rfl⟩
  have hc : Chg [] w (w.alloc (.cells (l.map Value.string).toArray 9)) := ⟨rfl, rfl, rfl, by show _ ≤ (w.heap.push _).size; simp, fun k hk _ => by show (w.heap.push _)[k]? = _; simp [Array.getElem?_push, Nat.ne_of_lt hk]⟩
  refine ⟨_, rfl, some ⟨w.heap.size, 0, none⟩, Lib.countB (bstr a0) (bstr a1) + 1, by rw [List.length_map, hl], .inr ⟨w.heap.size, (l.map Value.string).toArray, rfl, by simp [blkL], by show (w.heap.push _)[w.heap.size]? = _; simp, by simp [rStr, hl], by simp [hl], by unfold maxLen; omega, ?_⟩, fun x hx => by simp [blkL] at hx; omega, hc, MS.app (fun x hx => by simp [blkL] at hx; subst hx; show _ < (w.heap.push _).size; simp) (hM.chg hc)⟩
  have ez : ((l.map (·.data.toList)).length * rStr.sz) = (l.map Value.string).length := by simp [rStr]
  rw [ez, List.toList_toArray, List.take_length]
  exact rl_strs l

def rd_strange.l0 (a0 : List UInt8) : Nat → (List Int) → Nat → Option ((List Int) ⊕ (List Int × Nat))
  | 0, _, _ => none
  | kk + 1, x13, x14 => (if x14 < a0.length then ((if (decide (((dec a0 x14).1 : Int) ≥ (97 : Int))) = true then some (IntKind.i32.wrap ((IntKind.i32.wrap (((dec a0 x14).1 : Int) - (97 : Int))) + (10 : Int)) : Int) else some (IntKind.i32.wrap (((dec a0 x14).1 : Int) - (48 : Int)) : Int))).bind fun s25 => (if (if (if (decide (s25 < (0 : Int))) = true then true else (decide (s25 > (15 : Int)))) = true then true else (decide ((x14 : Int) ≥ (16 : Int)))) = true then some (.inl ((([(0 : Int), (0 : Int), (0 : Int), (0 : Int), (0 : Int), (0 : Int), (0 : Int), (0 : Int)] : List Int) : List Int))) else (if 0 ≤ (IntKind.i64.wrap (Int.tdiv (x14 : Int) (2 : Int))) ∧ (IntKind.i64.wrap (Int.tdiv (x14 : Int) (2 : Int))) < (8 : Int) then (if 0 ≤ (IntKind.i64.wrap (Int.tdiv (x14 : Int) (2 : Int))) ∧ (IntKind.i64.wrap (Int.tdiv (x14 : Int) (2 : Int))) < (8 : Int) then rd_strange.l0 a0 kk ((arL 8 x13).set (Int.toNat (IntKind.i64.wrap (Int.tdiv (x14 : Int) (2 : Int)))) (IntKind.u8.wrap (BitVec.ofInt IntKind.u8.bits (IntKind.u8.wrap ((ar x13 (Int.toNat (IntKind.i64.wrap (Int.tdiv (x14 : Int) (2 : Int))))) * 2 ^ (min (4 : Int).toNat IntKind.u8.bits))) ||| BitVec.ofInt IntKind.u8.bits (IntKind.u8.wrap s25)).toNat)) (x14 + (dec a0 x14).2) else none) else none)) else some (.inr ((x13 : List Int), (x14 : Nat))))
def rd_strange.f (k : Nat) (a0 : List UInt8) : Option (List Int) := (rd_strange.l0 a0 k (List.replicate 8 (0 : Int)) (0 : Nat)).bind fun s12 => match s12 with | .inl r => some r | .inr s12' => some ((s12'.1 : List Int))
set_option maxRecDepth 100000 in
theorem rd_strange.walk (w : World) (M : List Nat) (hM : MS M w) (a0 : List UInt8) (k : Nat) (r : List Int) (H : rd_strange.f k a0 = some r) :
    To Tryz.prog 31 [.string (bstr a0)] w fun v w' => v = .agg (cA .u8 8 r).toArray ∧ Chg [] w w' ∧ MS (M) w' := by
 unfold rd_strange.f at H
 refine ent Tryz.func31 rfl [(0, .string (bstr a0))] rfl (by rfl) fun a ha => ?_
 have hC : Chg [] w w := Chg.refl _ _
 refine wp_seq_k fun K1 hK1 => ?_
 refine wp_region_lit ?_
 refine al (cs := (cA .u8 8 (List.replicate 8 (0 : Int)))) (z := .agg (cA .u8 8 (List.replicate 8 (0 : Int))).toArray) ha (fun w => by kernel_rfl) rfl rfl rfl rfl fun a w2 g3 hN4 ha => ?_
 have p_i5_M : ∀ x ∈ [g3], x ∉ M := fun x hx hy => absurd (hM x (hy)) (Nat.not_lt.2 ((hN4.ge1) x hx))
 have e_i5 : ∀ x ∈ [g3], w.heap.size ≤ x := fun x hx => Nat.le_trans hC.size ((hN4.ge1) x hx)
 have hM : MS ([g3] ++ (M)) w2 := (MS.app hN4.ms (hM.chg hN4.chg))
 have hC := hC.trans hN4.chg (Ok.nil _ _)
 have hBg3 : Box w2 g3 (cA .u8 8 (List.replicate 8 (0 : Int))) := hN4.box
 refine hK1 _ _ ?_; try clear hK1 K1
 refine wp_seq_k fun K6 hK6 => ?_
 refine wp_seq_k fun K7 hK7 => ?_
 refine wp_region_lit ?_
 refine seg ha 1 [(2, .pointer (some ⟨g3, 0, none⟩)), (6, .string (bstr a0))] (by kernel_rfl) fun a ha => ?_
 refine rng (s := a0) ha (by kernel_rfl) rfl rfl rfl rfl fun a w8 g9 hN10 ha => ?_
 have hBg3 := hBg3.chg hN10.chg (fun h => nomatch h)
 have p_i11_i5 : ∀ x ∈ [g9], x ∉ ([g3]) := fun x hx hy => absurd (hM x (ml hy)) (Nat.not_lt.2 ((hN10.ge1) x hx))
 have p_i11_M : ∀ x ∈ [g9], x ∉ M := fun x hx hy => absurd (hM x (mr (hy))) (Nat.not_lt.2 ((hN10.ge1) x hx))
 have e_i11 : ∀ x ∈ [g9], w.heap.size ≤ x := fun x hx => Nat.le_trans hC.size ((hN10.ge1) x hx)
 have hM : MS ([g9] ++ ([g3] ++ (M))) w8 := (MS.app hN10.ms (hM.chg hN10.chg))
 have hC := hC.trans hN10.chg (Ok.nil _ _)
 have hBg9 : Iter w8 g9 a0 0 := hN10.at_
 refine hK7 _ _ ?_; try clear hK7 K7
 refine wp_block ?_
 obtain ⟨s12, H12, H⟩ := bind_some H
 have J12 : ∀ s12' (a : Act) (wx12 : World), s12 = .inr s12' → Has a Tryz.f31.ntmps [(2, .pointer (some ⟨g3, 0, none⟩))] → (Box wx12 g3 (cA .u8 8 s12'.1)) → (Iter wx12 g9 a0 s12'.2) → (Chg [] w wx12) → (MS ([g9] ++ ([g3] ++ (M))) wx12) → K6 a wx12 := by
  intro s12' a wx12 hs ha hBg3 hBg9 hC hM
  subst hs
  refine hK6 _ _ ?_; try clear hK6 K6
  refine wp_seq_k fun K15 hK15 => ?_
  refine wp_region_lit ?_
  refine ldA (cs := (cA .u8 8 s12'.1)) ha rfl (by kernel_rfl) rfl rfl rfl (cells_sub (Box.cells hBg3) (all := (cA .u8 8 s12'.1)) [] [] (by kernel_rfl)) fun a ha => ?_
  refine stA (l := (cA .u8 8 s12'.1)) ha rfl rfl rfl (by kernel_rfl) rfl rfl hBg3 rfl fun a w16 ha hb2 hc17 _ => ?_
  have hBg9 := hBg9.chg hc17 (p_i11_i5 g9 (by simp))
  have hM : MS ([g9] ++ ([g3] ++ (M))) w16 := (hM.chg hc17)
  have hC := hC.trans hc17 (fun x h => .inr (e_i5 x h))
  have hBg3 : Box w16 g3 (cA .u8 8 s12'.1) := hb2
  refine hK15 _ _ ?_; try clear hK15 K15
  refine wp_ret ?_
  try simp only [Exit.then, Exit.inBlock]
  have hBg3 := hBg3.chg (Chg.refl [] _) (fun h => nomatch h)
  have hBg9 := hBg9.chg (Chg.refl [] _) (fun h => nomatch h)
  have hM : MS (M) w16 := (fun x h => hM.chg (Chg.refl [] _) x (mr (mr (h))))
  have hC := hC.trans (Chg.refl [] _) (Ok.nil _ _)
  obtain rfl := Option.some.inj H
  refine rtr ha (res1 rfl (roA ha rfl hBg3 (by kernel_rfl))) ?_
  exact ⟨rfl, hC, hM⟩
 have Hc12 := H
 have H := H12
 refine wp_loop_ghost (fun kk a w12 => ∃ (x13 : List Int) (x14 : Nat), rd_strange.l0 a0 kk x13 x14 = some s12 ∧ Has a Tryz.f31.ntmps [(2, .pointer (some ⟨g3, 0, none⟩)), (7, .pointer (some ⟨g9, 0, none⟩))] ∧ (Box w12 g3 (cA .u8 8 x13)) ∧ (Iter w12 g9 a0 x14) ∧ (Chg [] w w12) ∧ (MS ([g9] ++ ([g3] ++ (M))) w12)) k ?_ ?_
 ·skip
  exact ⟨(List.replicate 8 (0 : Int)), (0 : Nat), H, (ha.sel (by kernel_rfl)), hBg3, hBg9, hC, hM⟩
 ·rintro kk a w12 ⟨x13, x14, H, ha, hBg3, hBg9, hC, hM⟩
  obtain _ | kk := kk
  ·exact nomatch (show none = some _ from H)
  rw [rd_strange.l0] at H
  refine wp_seq_k fun K18 hK18 => ?_
  refine wp_region_lit ?_
  by_cases hp19 : x14 < a0.length
  ·have H := (if_pos hp19).symm.trans H
   refine nxt_more ha rfl rfl rfl rfl hBg9 hp19 fun a w19 hI19 hc19 ha => ?_
   have hBg3 := hBg3.chg hc19 ((fun x (hx : x ∈ [g3]) (hy : x ∈ [g9]) => p_i11_i5 x hy hx) g3 (by simp))
   have hM : MS ([g9] ++ ([g3] ++ (M))) w19 := (hM.chg hc19)
   have hC := hC.trans hc19 (fun x h => .inr (e_i11 x h))
   have hBg9 := hI19
   refine seg ha 1 [(2, .pointer (some ⟨g3, 0, none⟩)), (7, .pointer (some ⟨g9, 0, none⟩)), (8, .tuple #[.bool true, .int .i64 (x14 : Int), .int .i32 ((dec a0 x14).1 : Int)]), (9, .bool true)] (by kernel_rfl) fun a ha => ?_
   refine hK18 _ _ ?_; try clear hK18 K18
   refine wp_seq_k fun K20 hK20 => ?_
   refine cnd ha rfl (fun _ => ?_) (fun h => nomatch h)
   refine wp_skip ?_
   refine hK20 _ _ ?_; try clear hK20 K20
   refine wp_block ?_
   refine wp_seq_k fun K22 hK22 => ?_
   refine wp_region_lit ?_
   refine seg ha 4 [(2, .pointer (some ⟨g3, 0, none⟩)), (3, .int .i64 (x14 : Int)), (4, .int .i32 ((dec a0 x14).1 : Int)), (7, .pointer (some ⟨g9, 0, none⟩))] (by kernel_rfl) fun a ha => ?_
   refine hK22 _ _ ?_; try clear hK22 K22
   refine wp_seq_k fun K23 hK23 => ?_
   refine wp_region_lit ?_
   refine seg ha 3 [(2, .pointer (some ⟨g3, 0, none⟩)), (3, .int .i64 (x14 : Int)), (4, .int .i32 ((dec a0 x14).1 : Int)), (5, .int .i32 (IntKind.i32.wrap (((dec a0 x14).1 : Int) - (48 : Int)))), (7, .pointer (some ⟨g9, 0, none⟩))] (by kernel_rfl) fun a ha => ?_
   refine hK23 _ _ ?_; try clear hK23 K23
   refine wp_seq_k fun K24 hK24 => ?_
   obtain ⟨s25, H25, H⟩ := bind_some H
   have J25 : ∀ (a : Act) (w25 : World), Has a Tryz.f31.ntmps [(2, .pointer (some ⟨g3, 0, none⟩)), (3, .int .i64 (x14 : Int)), (5, .int .i32 s25), (7, .pointer (some ⟨g9, 0, none⟩))] → (Box w25 g3 (cA .u8 8 x13)) → (Iter w25 g9 a0 (x14 + (dec a0 x14).2)) → (Chg [] w w25) → (MS ([g9] ++ ([g3] ++ (M))) w25) → K24 a w25 := by
    intro a w25 ha hBg3 hBg9 hC hM
    refine hK24 _ _ ?_; try clear hK24 K24
    refine wp_seq_k fun K26 hK26 => ?_
    refine wp_seq_k fun K27 hK27 => ?_
    refine wp_region_lit ?_
    refine seg ha 10 [(2, .pointer (some ⟨g3, 0, none⟩)), (3, .int .i64 (x14 : Int)), (5, .int .i32 s25), (7, .pointer (some ⟨g9, 0, none⟩)), (28, .bool (if (if (decide (s25 < (0 : Int))) = true then true else (decide (s25 > (15 : Int)))) = true then true else (decide ((x14 : Int) ≥ (16 : Int)))))] (by kernel_rfl) fun a ha => ?_
    refine hK27 _ _ ?_; try clear hK27 K27
    refine cnd ha rfl (fun hc28 => ?_) (fun hc28 => ?_)
    ·have H := ite_t hc28 H
     refine wp_seq_k fun K29 hK29 => ?_
     refine wp_region_lit ?_
     refine opk (v := .agg (cA .u8 8 ([(0 : Int), (0 : Int), (0 : Int), (0 : Int), (0 : Int), (0 : Int), (0 : Int), (0 : Int)] : List Int)).toArray) ha rfl rfl rfl rfl rfl (fun w => by kernel_rfl) fun a ha => ?_
     refine stA (l := (cA .u8 8 ([(0 : Int), (0 : Int), (0 : Int), (0 : Int), (0 : Int), (0 : Int), (0 : Int), (0 : Int)] : List Int))) ha rfl rfl rfl (by kernel_rfl) rfl rfl hBg3 rfl fun a w30 ha hb2 hc31 _ => ?_
     have hBg9 := hBg9.chg hc31 (p_i11_i5 g9 (by simp))
     have hM : MS ([g9] ++ ([g3] ++ (M))) w30 := (hM.chg hc31)
     have hC := hC.trans hc31 (fun x h => .inr (e_i5 x h))
     have hBg3 : Box w30 g3 (cA .u8 8 ([(0 : Int), (0 : Int), (0 : Int), (0 : Int), (0 : Int), (0 : Int), (0 : Int), (0 : Int)] : List Int)) := hb2
     refine hK29 _ _ ?_; try clear hK29 K29
     refine wp_ret ?_
     try simp only [Exit.then, Exit.inBlock]
     have hBg3 := hBg3.chg (Chg.refl [] _) (fun h => nomatch h)
     have hBg9 := hBg9.chg (Chg.refl [] _) (fun h => nomatch h)
     have hM : MS (M) w30 := (fun x h => hM.chg (Chg.refl [] _) x (mr (mr (h))))
     have hC := hC.trans (Chg.refl [] _) (Ok.nil _ _)
     obtain rfl := Option.some.inj H
     have H := (show some _ = some _ from Hc12)
     obtain rfl := Option.some.inj H
     refine rtr ha (res1 rfl (roA ha rfl hBg3 (by kernel_rfl))) ?_
     exact ⟨rfl, hC, hM⟩
    ·have H := ite_f hc28 H
     refine wp_skip ?_
     refine hK26 _ _ ?_; try clear hK26 K26
     refine wp_region_lit ?_
     refine seg ha 4 [(2, .pointer (some ⟨g3, 0, none⟩)), (5, .int .i32 s25), (7, .pointer (some ⟨g9, 0, none⟩)), (31, .int .i64 (IntKind.i64.wrap (Int.tdiv (x14 : Int) (2 : Int)))), (33, .int .i64 (IntKind.i64.wrap (Int.tdiv (x14 : Int) (2 : Int))))] (by kernel_rfl) fun a ha => ?_
     obtain ⟨⟨hx32, hx32'⟩, H⟩ := ite_some H
     have hi32 : (Int.toNat (IntKind.i64.wrap (Int.tdiv (x14 : Int) (2 : Int)))) < 8 := by omega
     refine hop (v := .pointer (some ⟨g3, 0 + (Int.toNat (IntKind.i64.wrap (Int.tdiv (x14 : Int) (2 : Int)))), none⟩)) (w' := w25) ha rfl rfl rfl (ixA_run (T := 5) (N := 8) (g := g3) (o' := 0) (k := .i64) (i := IntKind.i64.wrap (Int.tdiv (x14 : Int) (2 : Int))) ha (by kernel_rfl) (by kernel_rfl) (by rfl) (by rfl) hx32 hx32' _) fun a ha => ?_
     refine ld (v := .int .u8 (ar x13 (Int.toNat (IntKind.i64.wrap (Int.tdiv (x14 : Int) (2 : Int)))))) ha rfl (by kernel_rfl) rfl rfl rfl (hBg3.cell' (o := 0 + (Int.toNat (IntKind.i64.wrap (Int.tdiv (x14 : Int) (2 : Int))))) rfl (arr_cell (k := .u8) (m := 8) (x := x13) ([] : List Value) ([] : List Value) (by kernel_rfl) hi32)) fun a ha => ?_
     refine seg ha 4 [(2, .pointer (some ⟨g3, 0, none⟩)), (7, .pointer (some ⟨g9, 0, none⟩)), (31, .int .i64 (IntKind.i64.wrap (Int.tdiv (x14 : Int) (2 : Int)))), (39, .int .u8 (IntKind.u8.wrap (BitVec.ofInt IntKind.u8.bits (IntKind.u8.wrap ((ar x13 (Int.toNat (IntKind.i64.wrap (Int.tdiv (x14 : Int) (2 : Int))))) * 2 ^ (min (4 : Int).toNat IntKind.u8.bits))) ||| BitVec.ofInt IntKind.u8.bits (IntKind.u8.wrap s25)).toNat))] (by kernel_rfl) fun a ha => ?_
     obtain ⟨⟨hx33, hx33'⟩, H⟩ := ite_some H
     have hi33 : (Int.toNat (IntKind.i64.wrap (Int.tdiv (x14 : Int) (2 : Int)))) < 8 := by omega
     refine hop (v := .pointer (some ⟨g3, 0 + (Int.toNat (IntKind.i64.wrap (Int.tdiv (x14 : Int) (2 : Int)))), none⟩)) (w' := w25) ha rfl rfl rfl (ixA_run (T := 5) (N := 8) (g := g3) (o' := 0) (k := .i64) (i := IntKind.i64.wrap (Int.tdiv (x14 : Int) (2 : Int))) ha (by kernel_rfl) (by kernel_rfl) (by rfl) (by rfl) hx33 hx33' _) fun a ha => ?_
     refine st (o' := 0 + (Int.toNat (IntKind.i64.wrap (Int.tdiv (x14 : Int) (2 : Int))))) ha rfl rfl rfl (by kernel_rfl) rfl rfl hBg3 (arr_lt (k := .u8) (m := 8) (x := x13) ([] : List Value) ([] : List Value) (by kernel_rfl) hi33) fun a w34 ha hb2 hc35 _ => ?_
     have hBg9 := hBg9.chg hc35 (p_i11_i5 g9 (by simp))
     have hM : MS ([g9] ++ ([g3] ++ (M))) w34 := (hM.chg hc35)
     have hC := hC.trans hc35 (fun x h => .inr (e_i5 x h))
     have hBg3 : Box w34 g3 (cA .u8 8 ((arL 8 x13).set (Int.toNat (IntKind.i64.wrap (Int.tdiv (x14 : Int) (2 : Int)))) (IntKind.u8.wrap (BitVec.ofInt IntKind.u8.bits (IntKind.u8.wrap ((ar x13 (Int.toNat (IntKind.i64.wrap (Int.tdiv (x14 : Int) (2 : Int))))) * 2 ^ (min (4 : Int).toNat IntKind.u8.bits))) ||| BitVec.ofInt IntKind.u8.bits (IntKind.u8.wrap s25)).toNat))) := Box.setA (k := .u8) (m := 8) (x := x13) ([] : List Value) ([] : List Value) hb2 (by kernel_rfl) hi33 (by kernel_rfl)
     exact ⟨kk, Nat.lt_succ_self _, ⟨((arL 8 x13).set (Int.toNat (IntKind.i64.wrap (Int.tdiv (x14 : Int) (2 : Int)))) (IntKind.u8.wrap (BitVec.ofInt IntKind.u8.bits (IntKind.u8.wrap ((ar x13 (Int.toNat (IntKind.i64.wrap (Int.tdiv (x14 : Int) (2 : Int))))) * 2 ^ (min (4 : Int).toNat IntKind.u8.bits))) ||| BitVec.ofInt IntKind.u8.bits (IntKind.u8.wrap s25)).toNat)), x14 + (dec a0 x14).2, H, (ha.sel (by kernel_rfl)), hBg3, hBg9, hC, hM⟩⟩
   have H := H25
   refine wp_seq_k fun K36 hK36 => ?_
   refine wp_region_lit ?_
   refine seg ha 2 [(2, .pointer (some ⟨g3, 0, none⟩)), (3, .int .i64 (x14 : Int)), (4, .int .i32 ((dec a0 x14).1 : Int)), (5, .int .i32 (IntKind.i32.wrap (((dec a0 x14).1 : Int) - (48 : Int)))), (7, .pointer (some ⟨g9, 0, none⟩)), (15, .bool (decide (((dec a0 x14).1 : Int) ≥ (97 : Int))))] (by kernel_rfl) fun a ha => ?_
   refine hK36 _ _ ?_; try clear hK36 K36
   refine cnd ha rfl (fun hc37 => ?_) (fun hc37 => ?_)
   ·have H := ite_t hc37 H
    refine wp_region_lit ?_
    refine seg ha 4 [(2, .pointer (some ⟨g3, 0, none⟩)), (3, .int .i64 (x14 : Int)), (5, .int .i32 (IntKind.i32.wrap ((IntKind.i32.wrap (((dec a0 x14).1 : Int) - (97 : Int))) + (10 : Int)))), (7, .pointer (some ⟨g9, 0, none⟩))] (by kernel_rfl) fun a ha => ?_
    obtain rfl := Option.some.inj H
    exact J25 _ _ (ha.sel (by kernel_rfl)) hBg3 hBg9 hC hM
   ·have H := ite_f hc37 H
    refine wp_skip ?_
    obtain rfl := Option.some.inj H
    exact J25 _ _ (ha.sel (by kernel_rfl)) hBg3 hBg9 hC hM
  ·have H := (if_neg hp19).symm.trans H
   refine nxt_over ha rfl rfl rfl rfl hBg9 hp19 fun a ha => ?_
   refine seg ha 1 [(2, .pointer (some ⟨g3, 0, none⟩)), (7, .pointer (some ⟨g9, 0, none⟩)), (8, .tuple #[.bool false]), (9, .bool false)] (by kernel_rfl) fun a ha => ?_
   refine hK18 _ _ ?_; try clear hK18 K18
   refine wp_seq_k fun K38 hK38 => ?_
   refine cnd ha rfl (fun h => nomatch h) (fun _ => ?_)
   refine wp_exit ?_
   simp only [Exit.then, Exit.inBlock, ↓reduceIte, Nat.reduceEqDiff]
   obtain rfl := Option.some.inj H
   exact J12 _ _ _ rfl (ha.sel (by kernel_rfl)) hBg3 hBg9 hC hM
def cursor_Open.f (a0 : List Int) : Option (S_cursor_Reader) := (bytes_Clone.f a0).bind fun t4 => some (((⟨(⟨t4, false⟩ : S_cursor_rest)⟩ : S_cursor_Reader) : S_cursor_Reader))
set_option maxRecDepth 100000 in
theorem cursor_Open.walk (w : World) (M : List Nat) (hM : MS M w) (a0 : List Int) (ao1 : Option Addr) (cap1 : Nat) (f1 : RSl (rInt .u8) 5 w M ao1 cap1 a0) (r : S_cursor_Reader) (H : cursor_Open.f a0 = some r) :
    To Tryz.prog 73 [.slice ao1 a0.length cap1] w fun v w' => ∃ (g10 : Nat) (ao12 : Option Addr) (cap12 : Nat), v = .pointer (some ⟨g10, 0, none⟩) ∧ (RSl (rInt .u8) 5 w' ([g10] ++ (M)) ao12 cap12 r.rest.left) ∧ (Box w' g10 (cS_cursor_Reader r ao12 cap12)) ∧ (∀ x ∈ [g10], w.heap.size ≤ x) ∧ Chg [] w w' ∧ MS ([g10] ++ (M)) w' := by
 unfold cursor_Open.f at H
 refine ent Tryz.func73 rfl [(0, .slice ao1 a0.length cap1)] rfl (by rfl) fun a ha => ?_
 have hC : Chg [] w w := Chg.refl _ _
 refine wp_seq_k fun K2 hK2 => ?_
 refine wp_region_lit ?_
 refine seg ha 1 [(0, .slice ao1 a0.length cap1)] (by kernel_rfl) fun a ha => ?_
 refine hK2 _ _ ?_; try clear hK2 K2
 refine wp_seq_k fun K3 hK3 => ?_
 refine wp_region_lit ?_
 refine seg ha 1 [(3, .slice ao1 a0.length cap1)] (by kernel_rfl) fun a ha => ?_
 obtain ⟨t4, H4, H⟩ := bind_some H
 refine cl ha (by rfl) (by kernel_rfl) (by rfl) (by rfl) (by rfl) (bytes_Clone.walk w _ hM a0 ao1 cap1 f1 _ H4) ?_
 rintro _ w4 ⟨ao5, cap5, rfl, f5, ne_i5, hc4, hMn⟩ a ha
 have o1 : Ok [] (M) w.heap.size := Ok.nil _ _
 have o2 : Ok (blkL ao5 ++ (M)) (M) w.heap.size := (Ok.app (fun x h => .inr (ne_i5 x h)) (Ok.refl _ _))
 have f1 := f1.chg hc4 o1 o2
 have p_i5_M : ∀ x ∈ blkL ao5, x ∉ M := fun x hx hy => absurd (hM x (hy)) (Nat.not_lt.2 (ne_i5 x hx))
 have e_i5 : ∀ x ∈ blkL ao5, w.heap.size ≤ x := fun x hx => Nat.le_trans hC.size (ne_i5 x hx)
 have hM : MS (blkL ao5 ++ (M)) w4 := (MS.app (fun x h => hMn x (ml h)) (hM.chg hc4))
 have hC := hC.trans hc4 (Ok.nil _ _)
 refine opk (v := .agg (cS_cursor_rest (⟨t4, false⟩ : S_cursor_rest) ao5 cap5).toArray) ha rfl rfl rfl rfl rfl (fun w => by kernel_rfl) fun a ha => ?_
 refine opk (v := .agg (cS_cursor_Reader (⟨(⟨t4, false⟩ : S_cursor_rest)⟩ : S_cursor_Reader) ao5 cap5).toArray) ha rfl rfl rfl rfl rfl (fun w => by kernel_rfl) fun a ha => ?_
 have fz := f5.toRSl (M' := M) (fun _ h => .inl (mr (h))) (fun x hx hm => p_i5_M x hx hm)
 have hM : MS (M) w4 := (fun x h => hM.chg (Chg.refl [] _) x (mr (h)))
 have hC := hC.trans (Chg.refl [] _) (Ok.nil _ _)
 have f5 := fz
 refine bx (cs := (cS_cursor_Reader (⟨(⟨t4, false⟩ : S_cursor_rest)⟩ : S_cursor_Reader) ao5 cap5)) ha rfl rfl rfl rfl rfl fun a w6 g7 hN8 ha => ?_
 have o1 : Ok [] (M) w4.heap.size := Ok.nil _ _
 have o2 : Ok ([g7] ++ (M)) (M) w4.heap.size := (Ok.app (hN8.ok _) (Ok.refl _ _))
 have f5 := f5.chg hN8.chg o1 o2
 have p_i9_M : ∀ x ∈ [g7], x ∉ M := fun x hx hy => absurd (hM x (hy)) (Nat.not_lt.2 ((hN8.ge1) x hx))
 have e_i9 : ∀ x ∈ [g7], w.heap.size ≤ x := fun x hx => Nat.le_trans hC.size ((hN8.ge1) x hx)
 have hM : MS ([g7] ++ (M)) w6 := (MS.app hN8.ms (hM.chg hN8.chg))
 have hC := hC.trans hN8.chg (Ok.nil _ _)
 have hBg7 : Box w6 g7 (cS_cursor_Reader (⟨(⟨t4, false⟩ : S_cursor_rest)⟩ : S_cursor_Reader) ao5 cap5) := hN8.box
 refine seg ha 1 [(2, .pointer (some ⟨g7, 0, none⟩))] (by kernel_rfl) fun a ha => ?_
 refine hK3 _ _ ?_; try clear hK3 K3
 refine wp_ret ?_
 try simp only [Exit.then, Exit.inBlock]
 obtain rfl := Option.some.inj H
 refine rt1 ha rfl rfl ?_
 exact ⟨g7, ao5, cap5, rfl, f5, hBg7, e_i9, hC, hM⟩
def cursor_rest_next.f (a0 : S_cursor_rest) (a1 : Int) : Option (List Int × S_cursor_rest) := ((if a0.bad = true then some (true : Bool) else (if (decide (a1 < (0 : Int))) = true then some (true : Bool) else some (decide (a1 > (a0.left.length : Int)) : Bool)))).bind fun s5 => (if s5 = true then some ((([] : List Int) : List Int), ((⟨a0.left, true⟩ : S_cursor_rest) : S_cursor_rest)) else (if 0 ≤ (0 : Int) ∧ (0 : Int) ≤ a1 ∧ a1 ≤ (a0.left.length : Int) then (if 0 ≤ a1 ∧ a1 ≤ (a0.left.length : Int) ∧ (a0.left.length : Int) ≤ (a0.left.length : Int) then some ((((a0.left.take (Int.toNat a1)).drop (Int.toNat (0 : Int))) : List Int), ((⟨((a0.left.take (Int.toNat (a0.left.length : Int))).drop (Int.toNat a1)), a0.bad⟩ : S_cursor_rest) : S_cursor_rest)) else none) else none))
set_option maxRecDepth 100000 in
theorem cursor_rest_next.walk (w : World) (M : List Nat) (hM : MS M w) (gp0 : Nat) (a0 : S_cursor_rest) (ao1 : Option Addr) (cap1 : Nat) (f1 : RSl (rInt .u8) 5 w M ao1 cap1 a0.left) (hBgp0 : Box w gp0 (cS_cursor_rest a0 ao1 cap1)) (hg_gp0 : gp0 ∈ M) (a1 : Int) (r : List Int × S_cursor_rest) (H : cursor_rest_next.f a0 a1 = some r) :
    To Tryz.prog 106 [.pointer (some ⟨gp0, 0, none⟩), .int .i64 a1] w fun v w' => ∃ (ao22 : Option Addr) (cap22 : Nat) (ao23 : Option Addr) (cap23 : Nat), v = .slice ao22 r.1.length cap22 ∧ (RSl (rInt .u8) 5 w' (M) ao22 cap22 r.1) ∧ (RSl (rInt .u8) 5 w' (M) ao23 cap23 r.2.left) ∧ (Box w' gp0 (cS_cursor_rest r.2 ao23 cap23)) ∧ Chg [gp0] w w' ∧ MS (M) w' := by
 unfold cursor_rest_next.f at H
 refine ent Tryz.func106 rfl [(0, .pointer (some ⟨gp0, 0, none⟩)), (1, .int .i64 a1)] rfl (by rfl) fun a ha => ?_
 have hC : Chg [gp0] w w := Chg.refl _ _
 refine wp_seq_k fun K2 hK2 => ?_
 refine wp_region_lit ?_
 refine seg ha 1 [(0, .pointer (some ⟨gp0, 0, none⟩)), (1, .int .i64 a1)] (by kernel_rfl) fun a ha => ?_
 refine hK2 _ _ ?_; try clear hK2 K2
 refine wp_seq_k fun K3 hK3 => ?_
 refine wp_seq_k fun K4 hK4 => ?_
 refine wp_region_lit ?_
 obtain ⟨s5, H5, H⟩ := bind_some H
 have J5 : ∀ (a : Act) (w5 : World), Has a Tryz.f106.ntmps [(0, .pointer (some ⟨gp0, 0, none⟩)), (1, .int .i64 a1), (22, .bool s5)] → (RSl (rInt .u8) 5 w5 (M) ao1 cap1 a0.left) → (Box w5 gp0 (cS_cursor_rest a0 ao1 cap1)) → (Chg [gp0] w w5) → (MS (M) w5) → K4 a w5 := by
  intro a w5 ha f1 hBgp0 hC hM
  refine hK4 _ _ ?_; try clear hK4 K4
  refine cnd ha rfl (fun hc6 => ?_) (fun hc6 => ?_)
  ·have H := ite_t hc6 H
   refine wp_seq_k fun K7 hK7 => ?_
   refine wp_region_lit ?_
   refine seg ha 3 [(25, .pointer (some ⟨gp0, 1, none⟩))] (by kernel_rfl) fun a ha => ?_
   refine st ha rfl rfl rfl (by kernel_rfl) rfl rfl hBgp0 (Nat.le_of_ble_eq_true (by kernel_rfl)) fun a w8 ha hb2 hc9 _ => ?_
   have o1 : Ok [gp0] (M) w5.heap.size := Ok.one (.inl (hg_gp0))
   have o2 : Ok (M) (M) w5.heap.size := (Ok.refl _ _)
   have f1 := f1.chg hc9 o1 o2
   have hM : MS (M) w8 := (hM.chg hc9)
   have hC := hC.trans hc9 (Ok.one (.inl (by simp)))
   have hBgp0 : Box w8 gp0 (cS_cursor_rest (⟨a0.left, true⟩ : S_cursor_rest) ao1 cap1) := hb2
   refine hK7 _ _ ?_; try clear hK7 K7
   refine wp_seq_k fun K10 hK10 => ?_
   refine wp_region_lit ?_
   refine seg ha 1 [(4, .slice none 0 0)] (by kernel_rfl) fun a ha => ?_
   refine hK10 _ _ ?_; try clear hK10 K10
   refine wp_ret ?_
   try simp only [Exit.then, Exit.inBlock]
   obtain rfl := Option.some.inj H
   refine rt1 ha rfl rfl ?_
   exact ⟨none, 0, ao1, cap1, rfl, (RSl.nil (Nat.zero_le _)), f1, hBgp0, hC, hM⟩
  ·have H := ite_f hc6 H
   refine wp_skip ?_
   refine hK3 _ _ ?_; try clear hK3 K3
   refine wp_seq_k fun K11 hK11 => ?_
   refine wp_region_lit ?_
   refine seg ha 3 [(0, .pointer (some ⟨gp0, 0, none⟩)), (1, .int .i64 a1), (28, .pointer (some ⟨gp0, 0, none⟩))] (by kernel_rfl) fun a ha => ?_
   refine ld (v := .slice ao1 a0.left.length cap1) ha rfl (by kernel_rfl) rfl rfl rfl (hBgp0.cell' (o := 0) rfl (by kernel_rfl)) fun a ha => ?_
   refine seg ha 1 [(0, .pointer (some ⟨gp0, 0, none⟩)), (1, .int .i64 a1), (29, .slice ao1 a0.left.length cap1), (30, .int .i64 a1)] (by kernel_rfl) fun a ha => ?_
   obtain ⟨⟨hx12, hx12', hx12''⟩, H⟩ := ite_some H
   refine slc (r := (rInt .u8)) (l := (0 : Int)) (h := a1) ha (by kernel_rfl) (by kernel_rfl) rfl rfl rfl rfl rfl rfl f1 hx12 hx12' hx12'' fun a ao13 cap13 f13 ha => ?_
   refine seg ha 1 [(0, .pointer (some ⟨gp0, 0, none⟩)), (1, .int .i64 a1), (5, .slice ao13 ((a0.left.take (Int.toNat a1)).drop (Int.toNat (0 : Int))).length cap13)] (by kernel_rfl) fun a ha => ?_
   refine hK11 _ _ ?_; try clear hK11 K11
   refine wp_seq_k fun K14 hK14 => ?_
   refine wp_region_lit ?_
   refine seg ha 4 [(1, .int .i64 a1), (5, .slice ao13 ((a0.left.take (Int.toNat a1)).drop (Int.toNat (0 : Int))).length cap13), (32, .pointer (some ⟨gp0, 0, none⟩)), (35, .pointer (some ⟨gp0, 0, none⟩))] (by kernel_rfl) fun a ha => ?_
   refine ld (v := .slice ao1 a0.left.length cap1) ha rfl (by kernel_rfl) rfl rfl rfl (hBgp0.cell' (o := 0) rfl (by kernel_rfl)) fun a ha => ?_
   refine seg ha 1 [(5, .slice ao13 ((a0.left.take (Int.toNat a1)).drop (Int.toNat (0 : Int))).length cap13), (32, .pointer (some ⟨gp0, 0, none⟩)), (36, .slice ao1 a0.left.length cap1), (37, .int .i64 a1)] (by kernel_rfl) fun a ha => ?_
   obtain ⟨⟨hx15, hx15', hx15''⟩, H⟩ := ite_some H
   refine slc (r := (rInt .u8)) (l := a1) (h := (a0.left.length : Int)) ha (by kernel_rfl) (by kernel_rfl) rfl rfl rfl rfl rfl rfl f1 hx15 hx15' hx15'' fun a ao16 cap16 f16 ha => ?_
   refine seg ha 2 [(5, .slice ao13 ((a0.left.take (Int.toNat a1)).drop (Int.toNat (0 : Int))).length cap13), (38, .slice ao16 ((a0.left.take (Int.toNat (a0.left.length : Int))).drop (Int.toNat a1)).length cap16), (40, .pointer (some ⟨gp0, 0, none⟩))] (by kernel_rfl) fun a ha => ?_
   refine st ha rfl rfl rfl (by kernel_rfl) rfl rfl hBgp0 (Nat.le_of_ble_eq_true (by kernel_rfl)) fun a w17 ha hb2 hc18 _ => ?_
   have o1 : Ok [gp0] (M) w5.heap.size := Ok.one (.inl (hg_gp0))
   have o2 : Ok (M) (M) w5.heap.size := (Ok.refl _ _)
   have f13 := f13.chg hc18 o1 o2
   have f16 := f16.chg hc18 o1 o2
   have f1 := f1.chg hc18 o1 o2
   have hM : MS (M) w17 := (hM.chg hc18)
   have hC := hC.trans hc18 (Ok.one (.inl (by simp)))
   have hBgp0 : Box w17 gp0 (cS_cursor_rest (⟨((a0.left.take (Int.toNat (a0.left.length : Int))).drop (Int.toNat a1)), a0.bad⟩ : S_cursor_rest) ao16 cap16) := hb2
   refine hK14 _ _ ?_; try clear hK14 K14
   refine wp_seq_k fun K19 hK19 => ?_
   refine wp_region_lit ?_
   refine seg ha 2 [(4, .slice ao13 ((a0.left.take (Int.toNat a1)).drop (Int.toNat (0 : Int))).length cap13)] (by kernel_rfl) fun a ha => ?_
   refine hK19 _ _ ?_; try clear hK19 K19
   refine wp_ret ?_
   try simp only [Exit.then, Exit.inBlock]
   obtain rfl := Option.some.inj H
   refine rt1 ha rfl rfl ?_
   exact ⟨ao13, cap13, ao16, cap16, rfl, f13, f16, hBgp0, hC, hM⟩
 have H := H5
 refine seg ha 3 [(0, .pointer (some ⟨gp0, 0, none⟩)), (1, .int .i64 a1), (8, .pointer (some ⟨gp0, 1, none⟩))] (by kernel_rfl) fun a ha => ?_
 refine ld (v := .bool a0.bad) ha rfl (by kernel_rfl) rfl rfl rfl (hBgp0.cell' (o := 1) rfl (by kernel_rfl)) fun a ha => ?_
 refine seg ha 1 [(10, .bool a0.bad), (0, .pointer (some ⟨gp0, 0, none⟩)), (1, .int .i64 a1)] (by kernel_rfl) fun a ha => ?_
 rcases Bool.eq_false_or_eq_true (a0.bad) with hb20 | hb20
 ·have ha := ha.lit hb20
  have H := ite_t hb20 H
  refine sgh ha 12 [1, 1, 3, 0, 1, 1, 1, 1, 1, 1, 1, 3] [(0, .pointer (some ⟨gp0, 0, none⟩)), (1, .int .i64 a1), (22, .bool true)] (by kernel_rfl) fun a ha => ?_
  obtain rfl := Option.some.inj H
  exact J5 _ _ (ha.sel (by kernel_rfl)) f1 hBgp0 hC hM
 ·have ha := ha.lit hb20
  have H := ite_f hb20 H
  refine sgh ha 4 [2, 2, 4, 0] [(14, .bool (decide (a1 < (0 : Int)))), (0, .pointer (some ⟨gp0, 0, none⟩)), (1, .int .i64 a1)] (by kernel_rfl) fun a ha => ?_
  rcases Bool.eq_false_or_eq_true (decide (a1 < (0 : Int))) with hb21 | hb21
  ·have ha := ha.lit hb21
   have H := ite_t hb21 H
   refine sgh ha 8 [1, 1, 1, 1, 1, 1, 1, 3] [(0, .pointer (some ⟨gp0, 0, none⟩)), (1, .int .i64 a1), (22, .bool true)] (by kernel_rfl) fun a ha => ?_
   obtain rfl := Option.some.inj H
   exact J5 _ _ (ha.sel (by kernel_rfl)) f1 hBgp0 hC hM
  ·have ha := ha.lit hb21
   have H := ite_f hb21 H
   refine sgh ha 4 [2, 2, 2, 2] [(0, .pointer (some ⟨gp0, 0, none⟩)), (1, .int .i64 a1), (14, .bool false), (15, .int .i64 a1), (18, .pointer (some ⟨gp0, 0, none⟩))] (by kernel_rfl) fun a ha => ?_
   refine ld (v := .slice ao1 a0.left.length cap1) ha rfl (by kernel_rfl) rfl rfl rfl (hBgp0.cell' (o := 0) rfl (by kernel_rfl)) fun a ha => ?_
   refine sgh ha 3 [2, 2, 4] [(0, .pointer (some ⟨gp0, 0, none⟩)), (1, .int .i64 a1), (22, .bool (decide (a1 > (a0.left.length : Int))))] (by kernel_rfl) fun a ha => ?_
   obtain rfl := Option.some.inj H
   exact J5 _ _ (ha.sel (by kernel_rfl)) f1 hBgp0 hC hM
def cursor_Reader_Num.l0 (t8 : List Int × S_cursor_rest) : Nat → Int → Int → Option (Int)
  | 0, _, _ => none
  | kk + 1, x12, x13 => (if (decide (x13 < (t8.1.length : Int))) = true then (if 0 ≤ x13 ∧ x13 < (t8.1.length : Int) then cursor_Reader_Num.l0 t8 kk (IntKind.i64.wrap (BitVec.ofInt IntKind.i64.bits (IntKind.i64.wrap (x12 * 2 ^ (min (8 : Int).toNat IntKind.i64.bits))) ||| BitVec.ofInt IntKind.i64.bits (IntKind.i64.wrap (rd t8.1 x13))).toNat) (IntKind.i64.wrap (x13 + (1 : Int))) else none) else some (x12 : Int))
def cursor_Reader_Num.f (k : Nat) (a0 : S_cursor_Reader) (a1 : Int) : Option (Int × S_cursor_Reader) := ((if (if (decide (a1 < (1 : Int))) = true then true else (decide (a1 > (4 : Int)))) = true then some ((-1 : Int) : Int) else some (a1 : Int))).bind fun s4 => (cursor_rest_next.f a0.rest s4).bind fun t8 => (cursor_Reader_Num.l0 t8 k (0 : Int) (0 : Int)).bind fun s11 => some ((s11 : Int), ((⟨t8.2⟩ : S_cursor_Reader) : S_cursor_Reader))
set_option maxRecDepth 100000 in
theorem cursor_Reader_Num.walk (w : World) (M : List Nat) (hM : MS M w) (gp0 : Nat) (a0 : S_cursor_Reader) (ao1 : Option Addr) (cap1 : Nat) (f1 : RSl (rInt .u8) 5 w M ao1 cap1 a0.rest.left) (hBgp0 : Box w gp0 (cS_cursor_Reader a0 ao1 cap1)) (hg_gp0 : gp0 ∈ M) (a1 : Int) (k : Nat) (r : Int × S_cursor_Reader) (H : cursor_Reader_Num.f k a0 a1 = some r) :
    To Tryz.prog 75 [.pointer (some ⟨gp0, 0, none⟩), .int .i64 a1] w fun v w' => ∃ (ao29 : Option Addr) (cap29 : Nat), v = .int .i64 r.1 ∧ (RSl (rInt .u8) 5 w' (M) ao29 cap29 r.2.rest.left) ∧ (Box w' gp0 (cS_cursor_Reader r.2 ao29 cap29)) ∧ Chg [gp0] w w' ∧ MS (M) w' := by
 unfold cursor_Reader_Num.f at H
 refine ent Tryz.func75 rfl [(0, .pointer (some ⟨gp0, 0, none⟩)), (1, .int .i64 a1)] rfl (by rfl) fun a ha => ?_
 have hC : Chg [gp0] w w := Chg.refl _ _
 refine wp_seq_k fun K2 hK2 => ?_
 refine wp_region_lit ?_
 refine seg ha 1 [(0, .pointer (some ⟨gp0, 0, none⟩)), (1, .int .i64 a1)] (by kernel_rfl) fun a ha => ?_
 refine hK2 _ _ ?_; try clear hK2 K2
 refine wp_seq_k fun K3 hK3 => ?_
 obtain ⟨s4, H4, H⟩ := bind_some H
 have J4 : ∀ (a : Act) (w4 : World), Has a Tryz.f75.ntmps [(0, .pointer (some ⟨gp0, 0, none⟩)), (1, .int .i64 s4)] → (RSl (rInt .u8) 5 w4 (M) ao1 cap1 a0.rest.left) → (Box w4 gp0 (cS_cursor_Reader a0 ao1 cap1)) → (Chg [gp0] w w4) → (MS (M) w4) → K3 a w4 := by
  intro a w4 ha f1 hBgp0 hC hM
  refine hK3 _ _ ?_; try clear hK3 K3
  refine wp_seq_k fun K5 hK5 => ?_
  refine wp_region_lit ?_
  refine seg ha 1 [(0, .pointer (some ⟨gp0, 0, none⟩)), (1, .int .i64 s4), (5, .int .i64 (0 : Int))] (by kernel_rfl) fun a ha => ?_
  refine hK5 _ _ ?_; try clear hK5 K5
  refine wp_seq_k fun K6 hK6 => ?_
  refine wp_seq_k fun K7 hK7 => ?_
  refine wp_region_lit ?_
  refine seg ha 4 [(5, .int .i64 (0 : Int)), (16, .pointer (some ⟨gp0, 0, none⟩)), (17, .int .i64 s4)] (by kernel_rfl) fun a ha => ?_
  obtain ⟨t8, H8, H⟩ := bind_some H
  refine cl ha (by rfl) (by kernel_rfl) (by rfl) (by rfl) (by rfl) (cursor_rest_next.walk w4 _ hM gp0 a0.rest ao1 cap1 f1 hBgp0 (hg_gp0) s4 _ H8) ?_
  rintro _ w8 ⟨ao9, cap9, ao10, cap10, rfl, f9, f10, qhBgp0, hc8, hMn⟩ a ha
  have o1 : Ok [gp0] (M) w4.heap.size := Ok.one (.inl (hg_gp0))
  have o2 : Ok (M) (M) w4.heap.size := (Ok.refl _ _)
  have f1 := f1.chg hc8 o1 o2
  have hM : MS (M) w8 := (hM.chg hc8)
  have hC := hC.trans hc8 (Ok.one (.inl (by simp)))
  have hBgp0 := qhBgp0
  refine seg ha 2 [(5, .int .i64 (0 : Int)), (18, .slice ao9 t8.1.length cap9), (19, .int .i64 (t8.1.length : Int)), (20, .int .i64 (0 : Int))] (by kernel_rfl) fun a ha => ?_
  refine hK7 _ _ ?_; try clear hK7 K7
  refine wp_block ?_
  obtain ⟨s11, H11, H⟩ := bind_some H
  have J11 : ∀ (a : Act) (wx11 : World), Has a Tryz.f75.ntmps [(5, .int .i64 s11)] → (RSl (rInt .u8) 5 wx11 (M) ao10 cap10 t8.2.left) → (Box wx11 gp0 (cS_cursor_Reader (⟨t8.2⟩ : S_cursor_Reader) ao10 cap10)) → (Chg [gp0] w wx11) → (MS (M) wx11) → K6 a wx11 := by
   intro a wx11 ha f10 hBgp0 hC hM
   refine hK6 _ _ ?_; try clear hK6 K6
   refine wp_seq_k fun K14 hK14 => ?_
   refine wp_region_lit ?_
   refine seg ha 2 [(4, .int .i64 s11)] (by kernel_rfl) fun a ha => ?_
   refine hK14 _ _ ?_; try clear hK14 K14
   refine wp_ret ?_
   try simp only [Exit.then, Exit.inBlock]
   obtain rfl := Option.some.inj H
   refine rt1 ha rfl rfl ?_
   exact ⟨ao10, cap10, rfl, f10, hBgp0, hC, hM⟩
  have Hc11 := H
  have H := H11
  refine wp_loop_ghost (fun kk a w11 => ∃ (x12 : Int) (x13 : Int), cursor_Reader_Num.l0 t8 kk x12 x13 = some s11 ∧ Has a Tryz.f75.ntmps [(5, .int .i64 x12), (18, .slice ao9 t8.1.length cap9), (19, .int .i64 (t8.1.length : Int)), (20, .int .i64 x13)] ∧ (RSl (rInt .u8) 5 w11 (M) ao9 cap9 t8.1) ∧ (RSl (rInt .u8) 5 w11 (M) ao10 cap10 t8.2.left) ∧ (Box w11 gp0 (cS_cursor_Reader (⟨t8.2⟩ : S_cursor_Reader) ao10 cap10)) ∧ (Chg [gp0] w w11) ∧ (MS (M) w11)) k ?_ ?_
  ·skip
   exact ⟨(0 : Int), (0 : Int), H, (ha.sel (by kernel_rfl)), f9, f10, hBgp0, hC, hM⟩
  ·rintro kk a w11 ⟨x12, x13, H, ha, f9, f10, hBgp0, hC, hM⟩
   obtain _ | kk := kk
   ·exact nomatch (show none = some _ from H)
   rw [cursor_Reader_Num.l0] at H
   refine wp_seq_k fun K15 hK15 => ?_
   refine wp_region_lit ?_
   refine seg ha 1 [(5, .int .i64 x12), (18, .slice ao9 t8.1.length cap9), (19, .int .i64 (t8.1.length : Int)), (20, .int .i64 x13), (21, .bool (decide (x13 < (t8.1.length : Int))))] (by kernel_rfl) fun a ha => ?_
   refine hK15 _ _ ?_; try clear hK15 K15
   refine wp_seq_k fun K16 hK16 => ?_
   refine cnd ha rfl (fun hc17 => ?_) (fun hc17 => ?_)
   ·have H := ite_t hc17 H
    refine wp_skip ?_
    refine hK16 _ _ ?_; try clear hK16 K16
    refine wp_seq_k fun K18 hK18 => ?_
    refine wp_block ?_
    refine wp_seq_k fun K19 hK19 => ?_
    refine wp_region_lit ?_
    obtain ⟨⟨hx20, hx20'⟩, H⟩ := ite_some H
    refine ix (r := (rInt .u8)) ha (by kernel_rfl) (by kernel_rfl) rfl rfl rfl rfl rfl f9 hx20 hx20' fun a ge21 oe22 cs23 hn26 hR24 hE25 ha => ?_
    rw [rd_get] at hR24
    obtain rfl := hR24
    have hE25 : ∀ j v, ([.int .u8 (rd t8.1 x13)] : List Value)[j]? = some v → w11.cell? ⟨ge21, oe22 + j, none⟩ = some v := hE25
    refine ld ha rfl (by kernel_rfl) rfl rfl rfl (hE25 0 (.int .u8 (rd t8.1 x13)) (by kernel_rfl)) fun a ha => ?_
    refine seg ha 1 [(5, .int .i64 x12), (7, .int .u8 (rd t8.1 x13)), (18, .slice ao9 t8.1.length cap9), (19, .int .i64 (t8.1.length : Int)), (20, .int .i64 x13)] (by kernel_rfl) fun a ha => ?_
    refine hK19 _ _ ?_; try clear hK19 K19
    refine wp_region_lit ?_
    refine seg ha 6 [(5, .int .i64 (IntKind.i64.wrap (BitVec.ofInt IntKind.i64.bits (IntKind.i64.wrap (x12 * 2 ^ (min (8 : Int).toNat IntKind.i64.bits))) ||| BitVec.ofInt IntKind.i64.bits (IntKind.i64.wrap (rd t8.1 x13))).toNat)), (18, .slice ao9 t8.1.length cap9), (19, .int .i64 (t8.1.length : Int)), (20, .int .i64 x13)] (by kernel_rfl) fun a ha => ?_
    refine hK18 _ _ ?_; try clear hK18 K18
    refine wp_region_lit ?_
    refine seg ha 2 [(5, .int .i64 (IntKind.i64.wrap (BitVec.ofInt IntKind.i64.bits (IntKind.i64.wrap (x12 * 2 ^ (min (8 : Int).toNat IntKind.i64.bits))) ||| BitVec.ofInt IntKind.i64.bits (IntKind.i64.wrap (rd t8.1 x13))).toNat)), (18, .slice ao9 t8.1.length cap9), (19, .int .i64 (t8.1.length : Int)), (20, .int .i64 (IntKind.i64.wrap (x13 + (1 : Int))))] (by kernel_rfl) fun a ha => ?_
    exact ⟨kk, Nat.lt_succ_self _, ⟨IntKind.i64.wrap (BitVec.ofInt IntKind.i64.bits (IntKind.i64.wrap (x12 * 2 ^ (min (8 : Int).toNat IntKind.i64.bits))) ||| BitVec.ofInt IntKind.i64.bits (IntKind.i64.wrap (rd t8.1 x13))).toNat, IntKind.i64.wrap (x13 + (1 : Int)), H, (ha.sel (by kernel_rfl)), f9, f10, hBgp0, hC, hM⟩⟩
   ·have H := ite_f hc17 H
    refine wp_exit ?_
    simp only [Exit.then, Exit.inBlock, ↓reduceIte, Nat.reduceEqDiff]
    obtain rfl := Option.some.inj H
    exact J11 _ _ (ha.sel (by kernel_rfl)) f10 hBgp0 hC hM
 have H := H4
 refine wp_seq_k fun K27 hK27 => ?_
 refine wp_region_lit ?_
 refine seg ha 6 [(0, .pointer (some ⟨gp0, 0, none⟩)), (1, .int .i64 a1), (13, .bool (if (decide (a1 < (1 : Int))) = true then true else (decide (a1 > (4 : Int)))))] (by kernel_rfl) fun a ha => ?_
 refine hK27 _ _ ?_; try clear hK27 K27
 refine cnd ha rfl (fun hc28 => ?_) (fun hc28 => ?_)
 ·have H := ite_t hc28 H
  refine wp_region_lit ?_
  refine seg ha 1 [(0, .pointer (some ⟨gp0, 0, none⟩)), (1, .int .i64 (-1 : Int))] (by kernel_rfl) fun a ha => ?_
  obtain rfl := Option.some.inj H
  exact J4 _ _ (ha.sel (by kernel_rfl)) f1 hBgp0 hC hM
 ·have H := ite_f hc28 H
  refine wp_skip ?_
  obtain rfl := Option.some.inj H
  exact J4 _ _ (ha.sel (by kernel_rfl)) f1 hBgp0 hC hM
def cursor_rest_Left.f (a0 : S_cursor_rest) : Option (Int) := (if a0.bad = true then some (((0 : Int) : Int)) else some (((a0.left.length : Int) : Int)))
set_option maxRecDepth 100000 in
theorem cursor_rest_Left.walk (w : World) (M : List Nat) (hM : MS M w) (gp0 : Nat) (a0 : S_cursor_rest) (ao1 : Option Addr) (cap1 : Nat) (f1 : RSl (rInt .u8) 5 w M ao1 cap1 a0.left) (hBgp0 : Box w gp0 (cS_cursor_rest a0 ao1 cap1)) (hg_gp0 : gp0 ∈ M) (r : Int) (H : cursor_rest_Left.f a0 = some r) :
    To Tryz.prog 81 [.pointer (some ⟨gp0, 0, none⟩)] w fun v w' => v = .int .i64 r ∧ Chg [] w w' ∧ MS (M) w' := by
 unfold cursor_rest_Left.f at H
 refine ent Tryz.func81 rfl [(0, .pointer (some ⟨gp0, 0, none⟩))] rfl (by rfl) fun a ha => ?_
 have hC : Chg [] w w := Chg.refl _ _
 refine wp_seq_k fun K2 hK2 => ?_
 refine wp_region_lit ?_
 refine seg ha 1 [(0, .pointer (some ⟨gp0, 0, none⟩))] (by kernel_rfl) fun a ha => ?_
 refine hK2 _ _ ?_; try clear hK2 K2
 refine wp_seq_k fun K3 hK3 => ?_
 refine wp_seq_k fun K4 hK4 => ?_
 refine wp_region_lit ?_
 refine seg ha 3 [(0, .pointer (some ⟨gp0, 0, none⟩)), (5, .pointer (some ⟨gp0, 1, none⟩))] (by kernel_rfl) fun a ha => ?_
 refine ld (v := .bool a0.bad) ha rfl (by kernel_rfl) rfl rfl rfl (hBgp0.cell' (o := 1) rfl (by kernel_rfl)) fun a ha => ?_
 refine hK4 _ _ ?_; try clear hK4 K4
 refine cnd ha rfl (fun hc5 => ?_) (fun hc5 => ?_)
 ·have H := ite_t hc5 H
  refine wp_seq_k fun K6 hK6 => ?_
  refine wp_region_lit ?_
  refine seg ha 1 [(2, .int .i64 (0 : Int))] (by kernel_rfl) fun a ha => ?_
  refine hK6 _ _ ?_; try clear hK6 K6
  refine wp_ret ?_
  try simp only [Exit.then, Exit.inBlock]
  obtain rfl := Option.some.inj H
  refine rt1 ha rfl rfl ?_
  exact ⟨rfl, hC, hM⟩
 ·have H := ite_f hc5 H
  refine wp_skip ?_
  refine hK3 _ _ ?_; try clear hK3 K3
  refine wp_seq_k fun K7 hK7 => ?_
  refine wp_region_lit ?_
  refine seg ha 3 [(9, .pointer (some ⟨gp0, 0, none⟩))] (by kernel_rfl) fun a ha => ?_
  refine ld (v := .slice ao1 a0.left.length cap1) ha rfl (by kernel_rfl) rfl rfl rfl (hBgp0.cell' (o := 0) rfl (by kernel_rfl)) fun a ha => ?_
  refine seg ha 2 [(2, .int .i64 (a0.left.length : Int))] (by kernel_rfl) fun a ha => ?_
  refine hK7 _ _ ?_; try clear hK7 K7
  refine wp_ret ?_
  try simp only [Exit.then, Exit.inBlock]
  obtain rfl := Option.some.inj H
  refine rt1 ha rfl rfl ?_
  exact ⟨rfl, hC, hM⟩
def rd_Parts.f (k : Nat) (a0 : List Int) : Option (Int × Int × Int × Bool) := (cursor_Open.f (arL 8 a0)).bind fun t9 => (cursor_Reader_Num.f k t9 (2 : Int)).bind fun t14 => (rd_highSize.f t14.1).bind fun t17 => (if (!t17.2) = true then some (((0 : Int) : Int), ((0 : Int) : Int), ((0 : Int) : Int), (false : Bool)) else (cursor_Reader_Num.f k t14.2 t17.1).bind fun t23 => (cursor_rest_Left.f t23.2.rest).bind fun t26 => (cursor_Reader_Num.f k t23.2 t26).bind fun t27 => some ((t14.1 : Int), (t23.1 : Int), (t27.1 : Int), (true : Bool)))
set_option maxRecDepth 100000 in
theorem rd_Parts.walk (w : World) (M : List Nat) (hM : MS M w) (a0 : List Int) (k : Nat) (r : Int × Int × Int × Bool) (H : rd_Parts.f k a0 = some r) :
    To Tryz.prog 39 [.agg (cA .u8 8 a0).toArray] w fun v w' => v = .tuple #[.int .i64 r.1, .int .i64 r.2.1, .int .i64 r.2.2.1, .bool r.2.2.2] ∧ Chg [] w w' ∧ MS (M) w' := by
 unfold rd_Parts.f at H
 refine ent Tryz.func39 rfl [(0, .agg (cA .u8 8 a0).toArray)] rfl (by rfl) fun a ha => ?_
 have hC : Chg [] w w := Chg.refl _ _
 refine wp_seq_k fun K1 hK1 => ?_
 refine wp_region_lit ?_
 refine bx (cs := (cA .u8 8 a0)) ha rfl rfl rfl rfl rfl fun a w2 g3 hN4 ha => ?_
 have hn6 := hN4.notin hM
 have hM : MS (M) w2 := (hM.chg hN4.chg)
 have hC := hC.trans hN4.chg (Ok.nil _ _)
 have hE5 : ∀ j v, (cA .u8 8 a0)[j]? = some v → w2.cell? ⟨g3, 0 + j, none⟩ = some v := Box.cells (New.box hN4)
 refine seg ha 4 [(1, .pointer (some ⟨g3, 0, none⟩))] (by kernel_rfl) fun a ha => ?_
 refine hK1 _ _ ?_; try clear hK1 K1
 refine wp_seq_k fun K7 hK7 => ?_
 refine wp_region_lit ?_
 have f8 : RSl (rInt .u8) 5 w2 (M) (some ⟨g3, 0 + 0, none⟩) 8 (arL 8 a0) := RSl.ofA [] [] hE5 hn6 (by kernel_rfl) rfl
 refine opk (v := .slice (some ⟨g3, 0 + 0, none⟩) (arL 8 a0).length 8) ha rfl rfl rfl rfl rfl (fun w => by kernel_rfl) fun a ha => ?_
 obtain ⟨t9, H9, H⟩ := bind_some H
 refine cl ha (by rfl) (by kernel_rfl) (by rfl) (by rfl) (by rfl) (cursor_Open.walk w2 _ hM (arL 8 a0) (some ⟨g3, 0 + 0, none⟩) 8 f8 _ H9) ?_
 rintro _ w9 ⟨g10, ao12, cap12, rfl, f12, hBg10, ne_i11, hc9, hMn⟩ a ha
 have o1 : Ok [] (M) w2.heap.size := Ok.nil _ _
 have o2 : Ok ([g10] ++ (M)) (M) w2.heap.size := (Ok.app (fun x h => .inr (ne_i11 x h)) (Ok.refl _ _))
 have f8 := f8.chg hc9 o1 o2
 have p_i11_M : ∀ x ∈ [g10], x ∉ M := fun x hx hy => absurd (hM x (hy)) (Nat.not_lt.2 (ne_i11 x hx))
 have e_i11 : ∀ x ∈ [g10], w.heap.size ≤ x := fun x hx => Nat.le_trans hC.size (ne_i11 x hx)
 have hM : MS ([g10] ++ (M)) w9 := (MS.app (fun x h => hMn x (ml h)) (hM.chg hc9))
 have hC := hC.trans hc9 (Ok.nil _ _)
 refine seg ha 1 [(6, .pointer (some ⟨g10, 0, none⟩))] (by kernel_rfl) fun a ha => ?_
 refine hK7 _ _ ?_; try clear hK7 K7
 refine wp_seq_k fun K13 hK13 => ?_
 refine wp_region_lit ?_
 refine seg ha 1 [(6, .pointer (some ⟨g10, 0, none⟩)), (10, .pointer (some ⟨g10, 0, none⟩))] (by kernel_rfl) fun a ha => ?_
 obtain ⟨t14, H14, H⟩ := bind_some H
 refine cl ha (by rfl) (by kernel_rfl) (by rfl) (by rfl) (by rfl) (cursor_Reader_Num.walk w9 _ hM g10 t9 ao12 cap12 f12 hBg10 (ml (List.mem_singleton.2 rfl)) (2 : Int) k _ H14) ?_
 rintro _ w14 ⟨ao15, cap15, rfl, f15, qhBg10, hc14, hMn⟩ a ha
 have o1 : Ok [g10] ([g10] ++ (M)) w9.heap.size := (fun _ h => .inl (ml h))
 have o2 : Ok ([g10] ++ (M)) ([g10] ++ (M)) w9.heap.size := (Ok.refl _ _)
 have f12 := f12.chg hc14 o1 o2
 have hM : MS ([g10] ++ (M)) w14 := (hM.chg hc14)
 have hC := hC.trans hc14 (fun x h => .inr (e_i11 x h))
 have hBg10 := qhBg10
 refine seg ha 1 [(2, .int .i64 t14.1), (6, .pointer (some ⟨g10, 0, none⟩))] (by kernel_rfl) fun a ha => ?_
 refine hK13 _ _ ?_; try clear hK13 K13
 refine wp_seq_k fun K16 hK16 => ?_
 refine wp_region_lit ?_
 refine seg ha 1 [(2, .int .i64 t14.1), (6, .pointer (some ⟨g10, 0, none⟩)), (13, .int .i64 t14.1)] (by kernel_rfl) fun a ha => ?_
 obtain ⟨t17, H17, H⟩ := bind_some H
 refine cl ha (by rfl) (by kernel_rfl) (by rfl) (by rfl) (by rfl) (rd_highSize.walk w14 _ hM t14.1 _ H17) ?_
 rintro _ w17 ⟨rfl, hc17, hMn⟩ a ha
 have o1 : Ok [] ([g10] ++ (M)) w14.heap.size := Ok.nil _ _
 have o2 : Ok ([g10] ++ (M)) ([g10] ++ (M)) w14.heap.size := (Ok.refl _ _)
 have f15 := f15.chg hc17 o1 o2
 have hBg10 := hBg10.chg hc17 (fun h => nomatch h)
 have hM : MS ([g10] ++ (M)) w17 := (hM.chg hc17)
 have hC := hC.trans hc17 (Ok.nil _ _)
 refine seg ha 5 [(2, .int .i64 t14.1), (5, .bool t17.2), (6, .pointer (some ⟨g10, 0, none⟩)), (7, .int .i64 t17.1)] (by kernel_rfl) fun a ha => ?_
 refine hK16 _ _ ?_; try clear hK16 K16
 refine wp_seq_k fun K18 hK18 => ?_
 refine wp_seq_k fun K19 hK19 => ?_
 refine wp_region_lit ?_
 refine seg ha 2 [(2, .int .i64 t14.1), (6, .pointer (some ⟨g10, 0, none⟩)), (7, .int .i64 t17.1), (18, .bool (!t17.2))] (by kernel_rfl) fun a ha => ?_
 refine hK19 _ _ ?_; try clear hK19 K19
 refine cnd ha rfl (fun hc20 => ?_) (fun hc20 => ?_)
 ·have H := ite_t hc20 H
  refine wp_seq_k fun K21 hK21 => ?_
  refine wp_region_lit ?_
  refine seg ha 4 [(2, .int .i64 (0 : Int)), (3, .int .i64 (0 : Int)), (4, .int .i64 (0 : Int)), (5, .bool false)] (by kernel_rfl) fun a ha => ?_
  refine hK21 _ _ ?_; try clear hK21 K21
  refine wp_ret ?_
  try simp only [Exit.then, Exit.inBlock]
  have o1 : Ok [] ([g10] ++ (M)) w17.heap.size := Ok.nil _ _
  have o2 : Ok (M) ([g10] ++ (M)) w17.heap.size := (fun _ h => .inl (mr (h)))
  have f15 := f15.chg (Chg.refl [] _) o1 o2
  have hBg10 := hBg10.chg (Chg.refl [] _) (fun h => nomatch h)
  have hM : MS (M) w17 := (fun x h => hM.chg (Chg.refl [] _) x (mr (h)))
  have hC := hC.trans (Chg.refl [] _) (Ok.nil _ _)
  obtain rfl := Option.some.inj H
  refine rt4 ha rfl rfl rfl rfl rfl ?_
  exact ⟨rfl, hC, hM⟩
 ·have H := ite_f hc20 H
  refine wp_skip ?_
  refine hK18 _ _ ?_; try clear hK18 K18
  refine wp_seq_k fun K22 hK22 => ?_
  refine wp_region_lit ?_
  refine seg ha 2 [(2, .int .i64 t14.1), (6, .pointer (some ⟨g10, 0, none⟩)), (19, .pointer (some ⟨g10, 0, none⟩)), (20, .int .i64 t17.1)] (by kernel_rfl) fun a ha => ?_
  obtain ⟨t23, H23, H⟩ := bind_some H
  refine cl ha (by rfl) (by kernel_rfl) (by rfl) (by rfl) (by rfl) (cursor_Reader_Num.walk w17 _ hM g10 t14.2 ao15 cap15 f15 hBg10 (ml (List.mem_singleton.2 rfl)) t17.1 k _ H23) ?_
  rintro _ w23 ⟨ao24, cap24, rfl, f24, qhBg10, hc23, hMn⟩ a ha
  have o1 : Ok [g10] ([g10] ++ (M)) w17.heap.size := (fun _ h => .inl (ml h))
  have o2 : Ok ([g10] ++ (M)) ([g10] ++ (M)) w17.heap.size := (Ok.refl _ _)
  have f15 := f15.chg hc23 o1 o2
  have hM : MS ([g10] ++ (M)) w23 := (hM.chg hc23)
  have hC := hC.trans hc23 (fun x h => .inr (e_i11 x h))
  have hBg10 := qhBg10
  refine seg ha 1 [(2, .int .i64 t14.1), (3, .int .i64 t23.1), (6, .pointer (some ⟨g10, 0, none⟩))] (by kernel_rfl) fun a ha => ?_
  refine hK22 _ _ ?_; try clear hK22 K22
  refine wp_seq_k fun K25 hK25 => ?_
  refine wp_region_lit ?_
  refine seg ha 6 [(22, .int .i64 t14.1), (23, .int .i64 t23.1), (24, .pointer (some ⟨g10, 0, none⟩)), (27, .pointer (some ⟨g10, 0, none⟩))] (by kernel_rfl) fun a ha => ?_
  obtain ⟨t26, H26, H⟩ := bind_some H
  refine cl ha (by rfl) (by kernel_rfl) (by rfl) (by rfl) (by rfl) (cursor_rest_Left.walk w23 _ hM g10 t23.2.rest ao24 cap24 f24 hBg10 (ml (List.mem_singleton.2 rfl)) _ H26) ?_
  rintro _ w26 ⟨rfl, hc26, hMn⟩ a ha
  have o1 : Ok [] ([g10] ++ (M)) w23.heap.size := Ok.nil _ _
  have o2 : Ok ([g10] ++ (M)) ([g10] ++ (M)) w23.heap.size := (Ok.refl _ _)
  have f24 := f24.chg hc26 o1 o2
  have hBg10 := hBg10.chg hc26 (fun h => nomatch h)
  have hM : MS ([g10] ++ (M)) w26 := (hM.chg hc26)
  have hC := hC.trans hc26 (Ok.nil _ _)
  obtain ⟨t27, H27, H⟩ := bind_some H
  refine cl ha (by rfl) (by kernel_rfl) (by rfl) (by rfl) (by rfl) (cursor_Reader_Num.walk w26 _ hM g10 t23.2 ao24 cap24 f24 hBg10 (ml (List.mem_singleton.2 rfl)) t26 k _ H27) ?_
  rintro _ w27 ⟨ao28, cap28, rfl, f28, qhBg10, hc27, hMn⟩ a ha
  have o1 : Ok [g10] ([g10] ++ (M)) w26.heap.size := (fun _ h => .inl (ml h))
  have o2 : Ok ([g10] ++ (M)) ([g10] ++ (M)) w26.heap.size := (Ok.refl _ _)
  have f24 := f24.chg hc27 o1 o2
  have hM : MS ([g10] ++ (M)) w27 := (hM.chg hc27)
  have hC := hC.trans hc27 (fun x h => .inr (e_i11 x h))
  have hBg10 := qhBg10
  refine seg ha 4 [(2, .int .i64 t14.1), (3, .int .i64 t23.1), (4, .int .i64 t27.1), (5, .bool true)] (by kernel_rfl) fun a ha => ?_
  refine hK25 _ _ ?_; try clear hK25 K25
  refine wp_ret ?_
  try simp only [Exit.then, Exit.inBlock]
  have o1 : Ok [] ([g10] ++ (M)) w27.heap.size := Ok.nil _ _
  have o2 : Ok (M) ([g10] ++ (M)) w27.heap.size := (fun _ h => .inl (mr (h)))
  have f28 := f28.chg (Chg.refl [] _) o1 o2
  have hBg10 := hBg10.chg (Chg.refl [] _) (fun h => nomatch h)
  have hM : MS (M) w27 := (fun x h => hM.chg (Chg.refl [] _) x (mr (h)))
  have hC := hC.trans (Chg.refl [] _) (Ok.nil _ _)
  obtain rfl := Option.some.inj H
  refine rt4 ha rfl rfl rfl rfl rfl ?_
  exact ⟨rfl, hC, hM⟩

def strconv_Itoa.f (a0 : Int) : Option (List UInt8) := if -9223372036854775808 ≤ a0 ∧ a0 ≤ 9223372036854775807 then some (Lib.itoa a0) else none
theorem strconv_Itoa.walk (w : World) (M : List Nat) (hM : MS M w) (hG : GF w M) (a0 : Int) (r : List UInt8) (H : strconv_Itoa.f a0 = some r) :
    To Tryz.prog 40 [.int .i64 a0] w fun v w' => v = .string (bstr r) ∧ Chg [] w w' ∧ MS M w' := by
  unfold strconv_Itoa.f at H
  obtain ⟨⟨h0, h1⟩, H⟩ := ite_some H
  obtain rfl := Option.some.inj H
  refine Calls.mono (Tryz.strconv_Itoa a0 h0 h1 w hG.1.1) ?_
  rintro e w' ⟨rfl, k, os, rfl⟩
  exact ⟨_, rfl, rfl, chg_grow w k os, hM.chg (chg_grow w k os)⟩

def addr_Of.f (a0 : List Int) : Option (S_api_Addr × Int) := ((if ((a0.length : Int) == (0 : Int)) = true then some ((a0.length : Int) == (0 : Int) : Bool) else (if ((a0.length : Int) == (4 : Int)) = true then some ((a0.length : Int) == (4 : Int) : Bool) else some ((a0.length : Int) == (16 : Int) : Bool)))).bind fun s10 => (if s10 = true then some (((⟨(a0.length : Int), (arC 16 (List.replicate 16 (0 : Int)) a0)⟩ : S_api_Addr) : S_api_Addr), ((0 : Int) : Int)) else some (((⟨(0 : Int), (List.replicate 16 (0 : Int))⟩ : S_api_Addr) : S_api_Addr), ((1 : Int) : Int)))
set_option maxRecDepth 100000 in
theorem addr_Of.walk (w : World) (M : List Nat) (hM : MS M w) (a0 : List Int) (ao1 : Option Addr) (cap1 : Nat) (f1 : RSl (rInt .u8) 5 w M ao1 cap1 a0) (r : S_api_Addr × Int) (H : addr_Of.f a0 = some r) :
    To Tryz.prog 41 [.slice ao1 a0.length cap1] w fun v w' => v = .tuple #[.agg (cS_api_Addr r.1).toArray, .int .i64 r.2] ∧ Chg [] w w' ∧ MS (M) w' := by
 unfold addr_Of.f at H
 refine ent Tryz.func41 rfl [(0, .slice ao1 a0.length cap1)] rfl (by rfl) fun a ha => ?_
 have hC : Chg [] w w := Chg.refl _ _
 refine wp_seq_k fun K2 hK2 => ?_
 refine wp_region_lit ?_
 refine al (cs := (cS_api_Addr (⟨(0 : Int), (List.replicate 16 (0 : Int))⟩ : S_api_Addr))) (z := .agg (cS_api_Addr (⟨(0 : Int), (List.replicate 16 (0 : Int))⟩ : S_api_Addr)).toArray) ha (fun w => by kernel_rfl) rfl rfl rfl rfl fun a w3 g4 hN5 ha => ?_
 have o1 : Ok [] (M) w.heap.size := Ok.nil _ _
 have o2 : Ok ([g4] ++ (M)) (M) w.heap.size := (Ok.app (hN5.ok _) (Ok.refl _ _))
 have f1 := f1.chg hN5.chg o1 o2
 have p_i6_M : ∀ x ∈ [g4], x ∉ M := fun x hx hy => absurd (hM x (hy)) (Nat.not_lt.2 ((hN5.ge1) x hx))
 have e_i6 : ∀ x ∈ [g4], w.heap.size ≤ x := fun x hx => Nat.le_trans hC.size ((hN5.ge1) x hx)
 have hM : MS ([g4] ++ (M)) w3 := (MS.app hN5.ms (hM.chg hN5.chg))
 have hC := hC.trans hN5.chg (Ok.nil _ _)
 have hBg4 : Box w3 g4 (cS_api_Addr (⟨(0 : Int), (List.replicate 16 (0 : Int))⟩ : S_api_Addr)) := hN5.box
 refine seg ha 1 [(0, .slice ao1 a0.length cap1), (2, .pointer (some ⟨g4, 0, none⟩))] (by kernel_rfl) fun a ha => ?_
 refine hK2 _ _ ?_; try clear hK2 K2
 refine wp_seq_k fun K7 hK7 => ?_
 refine wp_seq_k fun K8 hK8 => ?_
 refine wp_region_lit ?_
 refine seg ha 2 [(0, .slice ao1 a0.length cap1), (2, .pointer (some ⟨g4, 0, none⟩)), (6, .int .i64 (a0.length : Int))] (by kernel_rfl) fun a ha => ?_
 refine hK8 _ _ ?_; try clear hK8 K8
 refine wp_block ?_
 refine wp_seq_k fun K9 hK9 => ?_
 obtain ⟨s10, H10, H⟩ := bind_some H
 have J10 : ∀ (a : Act) (w10 : World), Has a Tryz.f41.ntmps [(0, .slice ao1 a0.length cap1), (2, .pointer (some ⟨g4, 0, none⟩)), (7, .bool s10)] → (RSl (rInt .u8) 5 w10 ([g4] ++ (M)) ao1 cap1 a0) → (Box w10 g4 (cS_api_Addr (⟨(0 : Int), (List.replicate 16 (0 : Int))⟩ : S_api_Addr))) → (Chg [] w w10) → (MS ([g4] ++ (M)) w10) → K9 a w10 := by
  intro a w10 ha f1 hBg4 hC hM
  refine hK9 _ _ ?_; try clear hK9 K9
  refine cnd ha rfl (fun hc11 => ?_) (fun hc11 => ?_)
  ·have H := ite_t hc11 H
   refine wp_seq_k fun K12 hK12 => ?_
   refine wp_region_lit ?_
   refine seg ha 2 [(0, .slice ao1 a0.length cap1), (2, .pointer (some ⟨g4, 0, none⟩)), (12, .int .i64 (a0.length : Int))] (by kernel_rfl) fun a ha => ?_
   refine opk (v := .agg (cS_api_Addr (⟨(a0.length : Int), (List.replicate 16 (0 : Int))⟩ : S_api_Addr)).toArray) ha rfl rfl rfl rfl rfl (fun w => by kernel_rfl) fun a ha => ?_
   refine al (cs := (cS_api_Addr (⟨(0 : Int), (List.replicate 16 (0 : Int))⟩ : S_api_Addr))) (z := .agg (cS_api_Addr (⟨(0 : Int), (List.replicate 16 (0 : Int))⟩ : S_api_Addr)).toArray) ha (fun w => by kernel_rfl) rfl rfl rfl rfl fun a w13 g14 hN15 ha => ?_
   have o1 : Ok [] ([g4] ++ (M)) w10.heap.size := Ok.nil _ _
   have o2 : Ok ([g14] ++ ([g4] ++ (M))) ([g4] ++ (M)) w10.heap.size := (Ok.app (hN15.ok _) (Ok.refl _ _))
   have f1 := f1.chg hN15.chg o1 o2
   have hBg4 := hBg4.chg hN15.chg (fun h => nomatch h)
   have p_i16_i6 : ∀ x ∈ [g14], x ∉ ([g4]) := fun x hx hy => absurd (hM x (ml hy)) (Nat.not_lt.2 ((hN15.ge1) x hx))
   have p_i16_M : ∀ x ∈ [g14], x ∉ M := fun x hx hy => absurd (hM x (mr (hy))) (Nat.not_lt.2 ((hN15.ge1) x hx))
   have e_i16 : ∀ x ∈ [g14], w.heap.size ≤ x := fun x hx => Nat.le_trans hC.size ((hN15.ge1) x hx)
   have hM : MS ([g14] ++ ([g4] ++ (M))) w13 := (MS.app hN15.ms (hM.chg hN15.chg))
   have hC := hC.trans hN15.chg (Ok.nil _ _)
   have hBg14 : Box w13 g14 (cS_api_Addr (⟨(0 : Int), (List.replicate 16 (0 : Int))⟩ : S_api_Addr)) := hN15.box
   refine stA (l := (cS_api_Addr (⟨(a0.length : Int), (List.replicate 16 (0 : Int))⟩ : S_api_Addr))) ha rfl rfl rfl (by kernel_rfl) rfl rfl hBg14 rfl fun a w17 ha hb2 hc18 _ => ?_
   have o1 : Ok [g14] ([g14] ++ ([g4] ++ (M))) w13.heap.size := (fun _ h => .inl (ml h))
   have o2 : Ok ([g14] ++ ([g4] ++ (M))) ([g14] ++ ([g4] ++ (M))) w13.heap.size := (Ok.refl _ _)
   have f1 := f1.chg hc18 o1 o2
   have hBg4 := hBg4.chg hc18 ((fun x (hx : x ∈ [g4]) (hy : x ∈ [g14]) => p_i16_i6 x hy hx) g4 (by simp))
   have hM : MS ([g14] ++ ([g4] ++ (M))) w17 := (hM.chg hc18)
   have hC := hC.trans hc18 (fun x h => .inr (e_i16 x h))
   have hBg14 : Box w17 g14 (cS_api_Addr (⟨(a0.length : Int), (List.replicate 16 (0 : Int))⟩ : S_api_Addr)) := hb2
   refine hK12 _ _ ?_; try clear hK12 K12
   refine wp_seq_k fun K19 hK19 => ?_
   refine wp_region_lit ?_
   refine seg ha 1 [(0, .slice ao1 a0.length cap1), (2, .pointer (some ⟨g4, 0, none⟩)), (4, .pointer (some ⟨g14, 0, none⟩)), (14, .pointer (some ⟨g14, 1, none⟩))] (by kernel_rfl) fun a ha => ?_
   refine opk (v := .slice (some ⟨g14, 1, none⟩) 16 16) ha rfl rfl rfl rfl rfl (fun w => by kernel_rfl) fun a ha => ?_
   refine seg ha 1 [(2, .pointer (some ⟨g4, 0, none⟩)), (4, .pointer (some ⟨g14, 0, none⟩)), (15, .slice (some ⟨g14, 1, none⟩) 16 16), (16, .slice ao1 a0.length cap1)] (by kernel_rfl) fun a ha => ?_
   refine cpyA (T := 5) (k := .u8) (x0 := (List.replicate 16 (0 : Int))) (N := 16) ([.int .i64 (a0.length : Int)] : List Value) ([] : List Value) ha (by kernel_rfl) (by kernel_rfl) rfl rfl rfl rfl rfl hBg14 (by kernel_rfl) f1 fun a w20 hb2 hc21 ha => ?_
   have o1 : Ok [g14] ([g14] ++ ([g4] ++ (M))) w17.heap.size := (fun _ h => .inl (ml h))
   have o2 : Ok ([g14] ++ ([g4] ++ (M))) ([g14] ++ ([g4] ++ (M))) w17.heap.size := (Ok.refl _ _)
   have f1 := f1.chg hc21 o1 o2
   have hBg4 := hBg4.chg hc21 ((fun x (hx : x ∈ [g4]) (hy : x ∈ [g14]) => p_i16_i6 x hy hx) g4 (by simp))
   have hM : MS ([g14] ++ ([g4] ++ (M))) w20 := (hM.chg hc21)
   have hC := hC.trans hc21 (fun x h => .inr (e_i16 x h))
   have hBg14 : Box w20 g14 (cS_api_Addr (⟨(a0.length : Int), (arC 16 (List.replicate 16 (0 : Int)) a0)⟩ : S_api_Addr)) := hb2.cast (by kernel_rfl)
   refine hK19 _ _ ?_; try clear hK19 K19
   refine wp_seq_k fun K22 hK22 => ?_
   refine wp_region_lit ?_
   refine ldA (cs := (cS_api_Addr (⟨(a0.length : Int), (arC 16 (List.replicate 16 (0 : Int)) a0)⟩ : S_api_Addr))) ha rfl (by kernel_rfl) rfl rfl rfl (cells_sub (Box.cells hBg14) (all := (cS_api_Addr (⟨(a0.length : Int), (arC 16 (List.replicate 16 (0 : Int)) a0)⟩ : S_api_Addr))) [] [] (by kernel_rfl)) fun a ha => ?_
   refine stA (l := (cS_api_Addr (⟨(a0.length : Int), (arC 16 (List.replicate 16 (0 : Int)) a0)⟩ : S_api_Addr))) ha rfl rfl rfl (by kernel_rfl) rfl rfl hBg4 rfl fun a w23 ha hb2 hc24 _ => ?_
   have hBg14 := hBg14.chg hc24 (p_i16_i6 g14 (by simp))
   have hM : MS ([g14] ++ ([g4] ++ (M))) w23 := (hM.chg hc24)
   have hC := hC.trans hc24 (fun x h => .inr (e_i6 x h))
   have hBg4 : Box w23 g4 (cS_api_Addr (⟨(a0.length : Int), (arC 16 (List.replicate 16 (0 : Int)) a0)⟩ : S_api_Addr)) := hb2
   refine seg ha 1 [(2, .pointer (some ⟨g4, 0, none⟩)), (3, .int .i64 (0 : Int))] (by kernel_rfl) fun a ha => ?_
   refine hK22 _ _ ?_; try clear hK22 K22
   refine wp_ret ?_
   try simp only [Exit.then, Exit.inBlock]
   have hBg4 := hBg4.chg (Chg.refl [] _) (fun h => nomatch h)
   have hBg14 := hBg14.chg (Chg.refl [] _) (fun h => nomatch h)
   have hM : MS (M) w23 := (fun x h => hM.chg (Chg.refl [] _) x (mr (mr (h))))
   have hC := hC.trans (Chg.refl [] _) (Ok.nil _ _)
   obtain rfl := Option.some.inj H
   refine rtr ha (res2 rfl (roA ha rfl hBg4 (by kernel_rfl)) (roT ha rfl)) ?_
   exact ⟨rfl, hC, hM⟩
  ·have H := ite_f hc11 H
   refine wp_skip ?_
   refine hK7 _ _ ?_; try clear hK7 K7
   refine wp_seq_k fun K25 hK25 => ?_
   refine wp_region_lit ?_
   refine opk (v := .agg (cS_api_Addr (⟨(0 : Int), (List.replicate 16 (0 : Int))⟩ : S_api_Addr)).toArray) ha rfl rfl rfl rfl rfl (fun w => by kernel_rfl) fun a ha => ?_
   refine stA (l := (cS_api_Addr (⟨(0 : Int), (List.replicate 16 (0 : Int))⟩ : S_api_Addr))) ha rfl rfl rfl (by kernel_rfl) rfl rfl hBg4 rfl fun a w26 ha hb2 hc27 _ => ?_
   have hM : MS ([g4] ++ (M)) w26 := (hM.chg hc27)
   have hC := hC.trans hc27 (fun x h => .inr (e_i6 x h))
   have hBg4 : Box w26 g4 (cS_api_Addr (⟨(0 : Int), (List.replicate 16 (0 : Int))⟩ : S_api_Addr)) := hb2
   refine seg ha 1 [(2, .pointer (some ⟨g4, 0, none⟩)), (3, .int .i64 (1 : Int))] (by kernel_rfl) fun a ha => ?_
   refine hK25 _ _ ?_; try clear hK25 K25
   refine wp_ret ?_
   try simp only [Exit.then, Exit.inBlock]
   have hBg4 := hBg4.chg (Chg.refl [] _) (fun h => nomatch h)
   have hM : MS (M) w26 := (fun x h => hM.chg (Chg.refl [] _) x (mr (h)))
   have hC := hC.trans (Chg.refl [] _) (Ok.nil _ _)
   obtain rfl := Option.some.inj H
   refine rtr ha (res2 rfl (roA ha rfl hBg4 (by kernel_rfl)) (roT ha rfl)) ?_
   exact ⟨rfl, hC, hM⟩
 have H := H10
 refine wp_seq_k fun K28 hK28 => ?_
 refine wp_region_lit ?_
 refine seg ha 2 [(0, .slice ao1 a0.length cap1), (2, .pointer (some ⟨g4, 0, none⟩)), (6, .int .i64 (a0.length : Int)), (7, .bool ((a0.length : Int) == (0 : Int)))] (by kernel_rfl) fun a ha => ?_
 refine hK28 _ _ ?_; try clear hK28 K28
 refine cnd ha rfl (fun hc29 => ?_) (fun hc29 => ?_)
 ·have H := ite_t hc29 H
  refine wp_skip ?_
  obtain rfl := Option.some.inj H
  exact J10 _ _ (ha.sel (by kernel_rfl)) f1 hBg4 hC hM
 ·have H := ite_f hc29 H
  refine wp_seq_k fun K30 hK30 => ?_
  refine wp_region_lit ?_
  refine seg ha 2 [(0, .slice ao1 a0.length cap1), (2, .pointer (some ⟨g4, 0, none⟩)), (6, .int .i64 (a0.length : Int)), (7, .bool ((a0.length : Int) == (4 : Int)))] (by kernel_rfl) fun a ha => ?_
  refine hK30 _ _ ?_; try clear hK30 K30
  refine cnd ha rfl (fun hc31 => ?_) (fun hc31 => ?_)
  ·have H := ite_t hc31 H
   refine wp_skip ?_
   obtain rfl := Option.some.inj H
   exact J10 _ _ (ha.sel (by kernel_rfl)) f1 hBg4 hC hM
  ·have H := ite_f hc31 H
   refine wp_region_lit ?_
   refine seg ha 2 [(0, .slice ao1 a0.length cap1), (2, .pointer (some ⟨g4, 0, none⟩)), (7, .bool ((a0.length : Int) == (16 : Int)))] (by kernel_rfl) fun a ha => ?_
   obtain rfl := Option.some.inj H
   exact J10 _ _ (ha.sel (by kernel_rfl)) f1 hBg4 hC hM
def bytes_trimRightByte.l0 (a1 : Int) : Nat → (List Int) → Option (List Int)
  | 0, _ => none
  | kk + 1, x6 => ((if (decide ((x6.length : Int) > (0 : Int))) = true then (if 0 ≤ (IntKind.i64.wrap ((x6.length : Int) - (1 : Int))) ∧ (IntKind.i64.wrap ((x6.length : Int) - (1 : Int))) < (x6.length : Int) then some ((rd x6 (IntKind.i64.wrap ((x6.length : Int) - (1 : Int)))) == a1 : Bool) else none) else some (false : Bool))).bind fun s11 => (if s11 = true then (if 0 ≤ (0 : Int) ∧ (0 : Int) ≤ (IntKind.i64.wrap ((x6.length : Int) - (1 : Int))) ∧ (IntKind.i64.wrap ((x6.length : Int) - (1 : Int))) ≤ (x6.length : Int) then bytes_trimRightByte.l0 a1 kk ((x6.take (Int.toNat (IntKind.i64.wrap ((x6.length : Int) - (1 : Int))))).drop (Int.toNat (0 : Int))) else none) else some (x6 : List Int))
def bytes_trimRightByte.f (k : Nat) (a0 : List Int) (a1 : Int) : Option (List Int) := (bytes_trimRightByte.l0 a1 k a0).bind fun s4 => some ((s4 : List Int))
set_option maxRecDepth 100000 in
theorem bytes_trimRightByte.walk (w : World) (M : List Nat) (hM : MS M w) (a0 : List Int) (ao1 : Option Addr) (cap1 : Nat) (f1 : RSl (rInt .u8) 5 w M ao1 cap1 a0) (a1 : Int) (k : Nat) (r : List Int) (H : bytes_trimRightByte.f k a0 a1 = some r) :
    To Tryz.prog 130 [.slice ao1 a0.length cap1, .int .u8 a1] w fun v w' => ∃ (ao23 : Option Addr) (cap23 : Nat), v = .slice ao23 r.length cap23 ∧ (RSl (rInt .u8) 5 w' (M) ao23 cap23 r) ∧ Chg [] w w' ∧ MS (M) w' := by
 unfold bytes_trimRightByte.f at H
 refine ent Tryz.func130 rfl [(0, .slice ao1 a0.length cap1), (1, .int .u8 a1)] rfl (by rfl) fun a ha => ?_
 have hC : Chg [] w w := Chg.refl _ _
 refine wp_seq_k fun K2 hK2 => ?_
 refine wp_region_lit ?_
 refine seg ha 1 [(0, .slice ao1 a0.length cap1), (1, .int .u8 a1)] (by kernel_rfl) fun a ha => ?_
 refine hK2 _ _ ?_; try clear hK2 K2
 refine wp_seq_k fun K3 hK3 => ?_
 refine wp_block ?_
 obtain ⟨s4, H4, H⟩ := bind_some H
 have J4 : ∀ (a : Act) (wx4 : World) (ao7 : Option Addr) (cap7 : Nat), Has a Tryz.f130.ntmps [(0, .slice ao7 s4.length cap7)] → (RSl (rInt .u8) 5 wx4 (M) ao7 cap7 s4) → (Chg [] w wx4) → (MS (M) wx4) → K3 a wx4 := by
  intro a wx4 ao7 cap7 ha f7 hC hM
  refine hK3 _ _ ?_; try clear hK3 K3
  refine wp_seq_k fun K8 hK8 => ?_
  refine wp_region_lit ?_
  refine seg ha 2 [(4, .slice ao7 s4.length cap7)] (by kernel_rfl) fun a ha => ?_
  refine hK8 _ _ ?_; try clear hK8 K8
  refine wp_ret ?_
  try simp only [Exit.then, Exit.inBlock]
  obtain rfl := Option.some.inj H
  refine rt1 ha rfl rfl ?_
  exact ⟨ao7, cap7, rfl, f7, hC, hM⟩
 have Hc4 := H
 have H := H4
 refine wp_loop_ghost (fun kk a w4 => ∃ (x6 : List Int) (ao5 : Option Addr) (cap5 : Nat), bytes_trimRightByte.l0 a1 kk x6 = some s4 ∧ Has a Tryz.f130.ntmps [(0, .slice ao5 x6.length cap5), (1, .int .u8 a1)] ∧ (RSl (rInt .u8) 5 w4 (M) ao5 cap5 x6) ∧ (Chg [] w w4) ∧ (MS (M) w4)) k ?_ ?_
 ·skip
  exact ⟨a0, ao1, cap1, H, (ha.sel (by kernel_rfl)), f1, hC, hM⟩
 ·rintro kk a w4 ⟨x6, ao5, cap5, H, ha, f5, hC, hM⟩
  obtain _ | kk := kk
  ·exact nomatch (show none = some _ from H)
  rw [bytes_trimRightByte.l0] at H
  refine wp_seq_k fun K9 hK9 => ?_
  refine wp_seq_k fun K10 hK10 => ?_
  refine wp_region_lit ?_
  obtain ⟨s11, H11, H⟩ := bind_some H
  have J11 : ∀ (a : Act) (w11 : World), Has a Tryz.f130.ntmps [(0, .slice ao5 x6.length cap5), (1, .int .u8 a1), (17, .bool s11)] → (RSl (rInt .u8) 5 w11 (M) ao5 cap5 x6) → (Chg [] w w11) → (MS (M) w11) → K10 a w11 := by
   intro a w11 ha f5 hC hM
   refine hK10 _ _ ?_; try clear hK10 K10
   refine cnd ha rfl (fun hc12 => ?_) (fun hc12 => ?_)
   ·have H := ite_t hc12 H
    refine wp_skip ?_
    refine hK9 _ _ ?_; try clear hK9 K9
    refine wp_block ?_
    refine wp_region_lit ?_
    refine seg ha 4 [(1, .int .u8 a1), (18, .slice ao5 x6.length cap5), (21, .int .i64 (IntKind.i64.wrap ((x6.length : Int) - (1 : Int))))] (by kernel_rfl) fun a ha => ?_
    obtain ⟨⟨hx13, hx13', hx13''⟩, H⟩ := ite_some H
    refine slc (r := (rInt .u8)) (l := (0 : Int)) (h := (IntKind.i64.wrap ((x6.length : Int) - (1 : Int)))) ha (by kernel_rfl) (by kernel_rfl) rfl rfl rfl rfl rfl rfl f5 hx13 hx13' hx13'' fun a ao14 cap14 f14 ha => ?_
    refine seg ha 1 [(0, .slice ao14 ((x6.take (Int.toNat (IntKind.i64.wrap ((x6.length : Int) - (1 : Int))))).drop (Int.toNat (0 : Int))).length cap14), (1, .int .u8 a1)] (by kernel_rfl) fun a ha => ?_
    exact ⟨kk, Nat.lt_succ_self _, ⟨((x6.take (Int.toNat (IntKind.i64.wrap ((x6.length : Int) - (1 : Int))))).drop (Int.toNat (0 : Int))), ao14, cap14, H, (ha.sel (by kernel_rfl)), f14, hC, hM⟩⟩
   ·have H := ite_f hc12 H
    refine wp_exit ?_
    simp only [Exit.then, Exit.inBlock, ↓reduceIte, Nat.reduceEqDiff]
    obtain rfl := Option.some.inj H
    exact J4 _ _ ao5 cap5 (ha.sel (by kernel_rfl)) f5 hC hM
  have H := H11
  refine seg ha 4 [(8, .bool (decide ((x6.length : Int) > (0 : Int)))), (0, .slice ao5 x6.length cap5), (1, .int .u8 a1)] (by kernel_rfl) fun a ha => ?_
  rcases Bool.eq_false_or_eq_true (decide ((x6.length : Int) > (0 : Int))) with hb15 | hb15
  ·have ha := ha.lit hb15
   have H := ite_t hb15 H
   refine sgh ha 4 [2, 2, 2, 2] [(0, .slice ao5 x6.length cap5), (1, .int .u8 a1), (8, .bool true), (9, .slice ao5 x6.length cap5), (12, .int .i64 (IntKind.i64.wrap ((x6.length : Int) - (1 : Int))))] (by kernel_rfl) fun a ha => ?_
   obtain ⟨⟨hx16, hx16'⟩, H⟩ := ite_some H
   refine ix (r := (rInt .u8)) ha (by kernel_rfl) (by kernel_rfl) rfl rfl rfl rfl rfl f5 hx16 hx16' fun a ge17 oe18 cs19 hn22 hR20 hE21 ha => ?_
   rw [rd_get] at hR20
   obtain rfl := hR20
   have hE21 : ∀ j v, ([.int .u8 (rd x6 (IntKind.i64.wrap ((x6.length : Int) - (1 : Int))))] : List Value)[j]? = some v → w4.cell? ⟨ge17, oe18 + j, none⟩ = some v := hE21
   refine ld ha rfl (by kernel_rfl) rfl rfl rfl (hE21 0 (.int .u8 (rd x6 (IntKind.i64.wrap ((x6.length : Int) - (1 : Int))))) (by kernel_rfl)) fun a ha => ?_
   refine sgh ha 3 [2, 2, 3] [(0, .slice ao5 x6.length cap5), (1, .int .u8 a1), (17, .bool ((rd x6 (IntKind.i64.wrap ((x6.length : Int) - (1 : Int)))) == a1))] (by kernel_rfl) fun a ha => ?_
   obtain rfl := Option.some.inj H
   exact J11 _ _ (ha.sel (by kernel_rfl)) f5 hC hM
  ·have ha := ha.lit hb15
   have H := ite_f hb15 H
   refine sgh ha 9 [1, 1, 1, 1, 1, 1, 1, 1, 4] [(0, .slice ao5 x6.length cap5), (1, .int .u8 a1), (17, .bool false)] (by kernel_rfl) fun a ha => ?_
   obtain rfl := Option.some.inj H
   exact J11 _ _ (ha.sel (by kernel_rfl)) f5 hC hM
def bytes_trimLeftByte.l0 (a1 : Int) : Nat → (List Int) → Option (List Int)
  | 0, _ => none
  | kk + 1, x6 => ((if (decide ((x6.length : Int) > (0 : Int))) = true then (if 0 ≤ (0 : Int) ∧ (0 : Int) < (x6.length : Int) then some ((rd x6 (0 : Int)) == a1 : Bool) else none) else some (false : Bool))).bind fun s15 => (if s15 = true then (if 0 ≤ (1 : Int) ∧ (1 : Int) ≤ (x6.length : Int) ∧ (x6.length : Int) ≤ (x6.length : Int) then bytes_trimLeftByte.l0 a1 kk ((x6.take (Int.toNat (x6.length : Int))).drop (Int.toNat (1 : Int))) else none) else some (x6 : List Int))
def bytes_trimLeftByte.f (k : Nat) (a0 : List Int) (a1 : Int) : Option (List Int) := (bytes_trimLeftByte.l0 a1 k a0).bind fun s4 => (if ((s4.length : Int) == (0 : Int)) = true then some ((([] : List Int) : List Int)) else some ((s4 : List Int)))
set_option maxRecDepth 100000 in
theorem bytes_trimLeftByte.walk (w : World) (M : List Nat) (hM : MS M w) (a0 : List Int) (ao1 : Option Addr) (cap1 : Nat) (f1 : RSl (rInt .u8) 5 w M ao1 cap1 a0) (a1 : Int) (k : Nat) (r : List Int) (H : bytes_trimLeftByte.f k a0 a1 = some r) :
    To Tryz.prog 129 [.slice ao1 a0.length cap1, .int .u8 a1] w fun v w' => ∃ (ao27 : Option Addr) (cap27 : Nat), v = .slice ao27 r.length cap27 ∧ (RSl (rInt .u8) 5 w' (M) ao27 cap27 r) ∧ Chg [] w w' ∧ MS (M) w' := by
 unfold bytes_trimLeftByte.f at H
 refine ent Tryz.func129 rfl [(0, .slice ao1 a0.length cap1), (1, .int .u8 a1)] rfl (by rfl) fun a ha => ?_
 have hC : Chg [] w w := Chg.refl _ _
 refine wp_seq_k fun K2 hK2 => ?_
 refine wp_region_lit ?_
 refine seg ha 1 [(0, .slice ao1 a0.length cap1), (1, .int .u8 a1)] (by kernel_rfl) fun a ha => ?_
 refine hK2 _ _ ?_; try clear hK2 K2
 refine wp_seq_k fun K3 hK3 => ?_
 refine wp_block ?_
 obtain ⟨s4, H4, H⟩ := bind_some H
 have J4 : ∀ (a : Act) (wx4 : World) (ao7 : Option Addr) (cap7 : Nat), Has a Tryz.f129.ntmps [(0, .slice ao7 s4.length cap7)] → (RSl (rInt .u8) 5 wx4 (M) ao7 cap7 s4) → (Chg [] w wx4) → (MS (M) wx4) → K3 a wx4 := by
  intro a wx4 ao7 cap7 ha f7 hC hM
  refine hK3 _ _ ?_; try clear hK3 K3
  refine wp_seq_k fun K8 hK8 => ?_
  refine wp_seq_k fun K9 hK9 => ?_
  refine wp_region_lit ?_
  refine seg ha 3 [(0, .slice ao7 s4.length cap7), (19, .bool ((s4.length : Int) == (0 : Int)))] (by kernel_rfl) fun a ha => ?_
  refine hK9 _ _ ?_; try clear hK9 K9
  refine cnd ha rfl (fun hc10 => ?_) (fun hc10 => ?_)
  ·have H := ite_t hc10 H
   refine wp_seq_k fun K11 hK11 => ?_
   refine wp_region_lit ?_
   refine seg ha 1 [(4, .slice none 0 0)] (by kernel_rfl) fun a ha => ?_
   refine hK11 _ _ ?_; try clear hK11 K11
   refine wp_ret ?_
   try simp only [Exit.then, Exit.inBlock]
   obtain rfl := Option.some.inj H
   refine rt1 ha rfl rfl ?_
   exact ⟨none, 0, rfl, (RSl.nil (Nat.zero_le _)), hC, hM⟩
  ·have H := ite_f hc10 H
   refine wp_skip ?_
   refine hK8 _ _ ?_; try clear hK8 K8
   refine wp_seq_k fun K12 hK12 => ?_
   refine wp_region_lit ?_
   refine seg ha 2 [(4, .slice ao7 s4.length cap7)] (by kernel_rfl) fun a ha => ?_
   refine hK12 _ _ ?_; try clear hK12 K12
   refine wp_ret ?_
   try simp only [Exit.then, Exit.inBlock]
   obtain rfl := Option.some.inj H
   refine rt1 ha rfl rfl ?_
   exact ⟨ao7, cap7, rfl, f7, hC, hM⟩
 have Hc4 := H
 have H := H4
 refine wp_loop_ghost (fun kk a w4 => ∃ (x6 : List Int) (ao5 : Option Addr) (cap5 : Nat), bytes_trimLeftByte.l0 a1 kk x6 = some s4 ∧ Has a Tryz.f129.ntmps [(0, .slice ao5 x6.length cap5), (1, .int .u8 a1)] ∧ (RSl (rInt .u8) 5 w4 (M) ao5 cap5 x6) ∧ (Chg [] w w4) ∧ (MS (M) w4)) k ?_ ?_
 ·skip
  exact ⟨a0, ao1, cap1, H, (ha.sel (by kernel_rfl)), f1, hC, hM⟩
 ·rintro kk a w4 ⟨x6, ao5, cap5, H, ha, f5, hC, hM⟩
  obtain _ | kk := kk
  ·exact nomatch (show none = some _ from H)
  rw [bytes_trimLeftByte.l0] at H
  refine wp_seq_k fun K13 hK13 => ?_
  refine wp_seq_k fun K14 hK14 => ?_
  refine wp_region_lit ?_
  obtain ⟨s15, H15, H⟩ := bind_some H
  have J15 : ∀ (a : Act) (w15 : World), Has a Tryz.f129.ntmps [(0, .slice ao5 x6.length cap5), (1, .int .u8 a1), (14, .bool s15)] → (RSl (rInt .u8) 5 w15 (M) ao5 cap5 x6) → (Chg [] w w15) → (MS (M) w15) → K14 a w15 := by
   intro a w15 ha f5 hC hM
   refine hK14 _ _ ?_; try clear hK14 K14
   refine cnd ha rfl (fun hc16 => ?_) (fun hc16 => ?_)
   ·have H := ite_t hc16 H
    refine wp_skip ?_
    refine hK13 _ _ ?_; try clear hK13 K13
    refine wp_block ?_
    refine wp_region_lit ?_
    refine seg ha 1 [(1, .int .u8 a1), (15, .slice ao5 x6.length cap5)] (by kernel_rfl) fun a ha => ?_
    obtain ⟨⟨hx17, hx17', hx17''⟩, H⟩ := ite_some H
    refine slc (r := (rInt .u8)) (l := (1 : Int)) (h := (x6.length : Int)) ha (by kernel_rfl) (by kernel_rfl) rfl rfl rfl rfl rfl rfl f5 hx17 hx17' hx17'' fun a ao18 cap18 f18 ha => ?_
    refine seg ha 1 [(0, .slice ao18 ((x6.take (Int.toNat (x6.length : Int))).drop (Int.toNat (1 : Int))).length cap18), (1, .int .u8 a1)] (by kernel_rfl) fun a ha => ?_
    exact ⟨kk, Nat.lt_succ_self _, ⟨((x6.take (Int.toNat (x6.length : Int))).drop (Int.toNat (1 : Int))), ao18, cap18, H, (ha.sel (by kernel_rfl)), f18, hC, hM⟩⟩
   ·have H := ite_f hc16 H
    refine wp_exit ?_
    simp only [Exit.then, Exit.inBlock, ↓reduceIte, Nat.reduceEqDiff]
    obtain rfl := Option.some.inj H
    exact J4 _ _ ao5 cap5 (ha.sel (by kernel_rfl)) f5 hC hM
  have H := H15
  refine seg ha 4 [(8, .bool (decide ((x6.length : Int) > (0 : Int)))), (0, .slice ao5 x6.length cap5), (1, .int .u8 a1)] (by kernel_rfl) fun a ha => ?_
  rcases Bool.eq_false_or_eq_true (decide ((x6.length : Int) > (0 : Int))) with hb19 | hb19
  ·have ha := ha.lit hb19
   have H := ite_t hb19 H
   refine sgh ha 1 [2] [(0, .slice ao5 x6.length cap5), (1, .int .u8 a1), (8, .bool true), (9, .slice ao5 x6.length cap5)] (by kernel_rfl) fun a ha => ?_
   obtain ⟨⟨hx20, hx20'⟩, H⟩ := ite_some H
   refine ix (r := (rInt .u8)) ha (by kernel_rfl) (by kernel_rfl) rfl rfl rfl rfl rfl f5 hx20 hx20' fun a ge21 oe22 cs23 hn26 hR24 hE25 ha => ?_
   rw [rd_get] at hR24
   obtain rfl := hR24
   have hE25 : ∀ j v, ([.int .u8 (rd x6 (0 : Int))] : List Value)[j]? = some v → w4.cell? ⟨ge21, oe22 + j, none⟩ = some v := hE25
   refine ld ha rfl (by kernel_rfl) rfl rfl rfl (hE25 0 (.int .u8 (rd x6 (0 : Int))) (by kernel_rfl)) fun a ha => ?_
   refine sgh ha 3 [2, 2, 3] [(0, .slice ao5 x6.length cap5), (1, .int .u8 a1), (14, .bool ((rd x6 (0 : Int)) == a1))] (by kernel_rfl) fun a ha => ?_
   obtain rfl := Option.some.inj H
   exact J15 _ _ (ha.sel (by kernel_rfl)) f5 hC hM
  ·have ha := ha.lit hb19
   have H := ite_f hb19 H
   refine sgh ha 6 [1, 1, 1, 1, 1, 4] [(0, .slice ao5 x6.length cap5), (1, .int .u8 a1), (14, .bool false)] (by kernel_rfl) fun a ha => ?_
   obtain rfl := Option.some.inj H
   exact J15 _ _ (ha.sel (by kernel_rfl)) f5 hC hM
def bytes_Trim.f (k : Nat) (a0 : List Int) (a1 : List UInt8) : Option (List Int) := (if ((a0.length : Int) == (0 : Int)) = true then some ((([] : List Int) : List Int)) else (if ((bstr a1).toList == (bstr ([] : List UInt8)).toList) = true then some ((a0 : List Int)) else ((if (((bstr a1).size : Int) == (1 : Int)) = true then (if 0 ≤ (0 : Int) ∧ (0 : Int) < (a1.length : Int) then some (decide (((a1.getD (Int.toNat (0 : Int)) 0).toNat : Int) < (128 : Int)) : Bool) else none) else some (false : Bool))).bind fun s13 => (if s13 = true then (if 0 ≤ (0 : Int) ∧ (0 : Int) < (a1.length : Int) then (if 0 ≤ (0 : Int) ∧ (0 : Int) < (a1.length : Int) then (bytes_trimRightByte.f k a0 ((a1.getD (Int.toNat (0 : Int)) 0).toNat : Int)).bind fun t21 => (bytes_trimLeftByte.f k t21 ((a1.getD (Int.toNat (0 : Int)) 0).toNat : Int)).bind fun t24 => some ((t24 : List Int)) else none) else none) else none)))
set_option maxRecDepth 100000 in
theorem bytes_Trim.walk (w : World) (M : List Nat) (hM : MS M w) (a0 : List Int) (ao1 : Option Addr) (cap1 : Nat) (f1 : RSl (rInt .u8) 5 w M ao1 cap1 a0) (a1 : List UInt8) (k : Nat) (r : List Int) (H : bytes_Trim.f k a0 a1 = some r) :
    To Tryz.prog 96 [.slice ao1 a0.length cap1, .string (bstr a1)] w fun v w' => ∃ (ao28 : Option Addr) (cap28 : Nat), v = .slice ao28 r.length cap28 ∧ (RSl (rInt .u8) 5 w' (M) ao28 cap28 r) ∧ Chg [] w w' ∧ MS (M) w' := by
 unfold bytes_Trim.f at H
 refine ent Tryz.func96 rfl [(0, .slice ao1 a0.length cap1), (1, .string (bstr a1))] rfl (by rfl) fun a ha => ?_
 have hC : Chg [] w w := Chg.refl _ _
 refine wp_seq_k fun K2 hK2 => ?_
 refine wp_region_lit ?_
 refine seg ha 1 [(0, .slice ao1 a0.length cap1), (1, .string (bstr a1))] (by kernel_rfl) fun a ha => ?_
 refine hK2 _ _ ?_; try clear hK2 K2
 refine wp_seq_k fun K3 hK3 => ?_
 refine wp_seq_k fun K4 hK4 => ?_
 refine wp_region_lit ?_
 refine seg ha 3 [(0, .slice ao1 a0.length cap1), (1, .string (bstr a1)), (9, .bool ((a0.length : Int) == (0 : Int)))] (by kernel_rfl) fun a ha => ?_
 refine hK4 _ _ ?_; try clear hK4 K4
 refine cnd ha rfl (fun hc5 => ?_) (fun hc5 => ?_)
 ·have H := ite_t hc5 H
  refine wp_seq_k fun K6 hK6 => ?_
  refine wp_region_lit ?_
  refine seg ha 1 [(4, .slice none 0 0)] (by kernel_rfl) fun a ha => ?_
  refine hK6 _ _ ?_; try clear hK6 K6
  refine wp_ret ?_
  try simp only [Exit.then, Exit.inBlock]
  obtain rfl := Option.some.inj H
  refine rt1 ha rfl rfl ?_
  exact ⟨none, 0, rfl, (RSl.nil (Nat.zero_le _)), hC, hM⟩
 ·have H := ite_f hc5 H
  refine wp_skip ?_
  refine hK3 _ _ ?_; try clear hK3 K3
  refine wp_seq_k fun K7 hK7 => ?_
  refine wp_seq_k fun K8 hK8 => ?_
  refine wp_region_lit ?_
  refine seg ha 2 [(0, .slice ao1 a0.length cap1), (1, .string (bstr a1)), (11, .bool ((bstr a1).toList == (bstr ([] : List UInt8)).toList))] (by kernel_rfl) fun a ha => ?_
  refine hK8 _ _ ?_; try clear hK8 K8
  refine cnd ha rfl (fun hc9 => ?_) (fun hc9 => ?_)
  ·have H := ite_t hc9 H
   refine wp_seq_k fun K10 hK10 => ?_
   refine wp_region_lit ?_
   refine seg ha 2 [(4, .slice ao1 a0.length cap1)] (by kernel_rfl) fun a ha => ?_
   refine hK10 _ _ ?_; try clear hK10 K10
   refine wp_ret ?_
   try simp only [Exit.then, Exit.inBlock]
   obtain rfl := Option.some.inj H
   refine rt1 ha rfl rfl ?_
   exact ⟨ao1, cap1, rfl, f1, hC, hM⟩
  ·have H := ite_f hc9 H
   refine wp_skip ?_
   refine hK7 _ _ ?_; try clear hK7 K7
   refine wp_seq_k fun K11 hK11 => ?_
   refine wp_seq_k fun K12 hK12 => ?_
   refine wp_region_lit ?_
   obtain ⟨s13, H13, H⟩ := bind_some H
   have J13 : ∀ (a : Act) (w13 : World), Has a Tryz.f96.ntmps [(0, .slice ao1 a0.length cap1), (1, .string (bstr a1)), (20, .bool s13)] → (RSl (rInt .u8) 5 w13 (M) ao1 cap1 a0) → (Chg [] w w13) → (MS (M) w13) → K12 a w13 := by
    intro a w13 ha f1 hC hM
    refine hK12 _ _ ?_; try clear hK12 K12
    refine cnd ha rfl (fun hc14 => ?_) (fun hc14 => ?_)
    ·have H := ite_t hc14 H
     refine wp_seq_k fun K15 hK15 => ?_
     have okS : Ok [] (M) w13.heap.size := Ok.nil _ _
     have z_f1 := f1
     refine drw (fun w' => Chg [] w13 w') (by kernel_rfl) fun w16 hc17 _ => ?_
     have hS : Chg [] w13 w16 := (Chg.refl [] _).trans hc17 (Ok.nil _ _)
     have o1 : Ok [] (M) w13.heap.size := Ok.nil _ _
     have o2 : Ok (M) (M) w13.heap.size := (Ok.refl _ _)
     have f1 := f1.chg hc17 o1 o2
     have hM : MS (M) w16 := (hM.chg hc17)
     have hC := hC.trans hc17 (Ok.nil _ _)
     refine tkpz 0 0 (.slice ao1 a0.length cap1) ha (s := hS) (q := fun a ha => ?_)
     refine tkpz 1 0 (.string (bstr a1)) ha (s := hS) (q := fun a ha => ?_)
     obtain ⟨⟨hx18, hx18'⟩, H⟩ := ite_some H
     refine tkz 2 ha (v := .int .u8 ((a1.getD (Int.toNat (0 : Int)) 0).toNat : Int)) (y := fun w' hs => sidx_run (l := a1) (k := .i64) (i := (0 : Int)) ha (by kernel_rfl) (by rfl) (by rfl) hx18 hx18' w') (s := hS) (q := fun a ha => ?_)
     refine tkpz 4 0 (.string (bstr a1)) ha (s := hS) (q := fun a ha => ?_)
     obtain ⟨⟨hx19, hx19'⟩, H⟩ := ite_some H
     refine tkz 5 ha (v := .int .u8 ((a1.getD (Int.toNat (0 : Int)) 0).toNat : Int)) (y := fun w' hs => sidx_run (l := a1) (k := .i64) (i := (0 : Int)) ha (by kernel_rfl) (by rfl) (by rfl) hx19 hx19' w') (s := hS) (q := fun a ha => ?_)
     refine ac 3 (by kernel_rfl) (by rfl) fun K20 hK20 => ?_
     obtain ⟨t21, H21, H⟩ := bind_some H
     refine cl ha (by rfl) (by kernel_rfl) (by rfl) (by rfl) (by rfl) (bytes_trimRightByte.walk w16 _ hM a0 ao1 cap1 f1 ((a1.getD (Int.toNat (0 : Int)) 0).toNat : Int) k _ H21) ?_
     rintro _ w21 ⟨ao22, cap22, rfl, f22, hc21, hMn⟩ a ha
     have o1 : Ok [] (M) w16.heap.size := Ok.nil _ _
     have o2 : Ok (M) (M) w16.heap.size := (Ok.refl _ _)
     have f1 := f1.chg hc21 o1 o2
     have hM : MS (M) w21 := (hM.chg hc21)
     have hC := hC.trans hc21 (Ok.nil _ _)
     have hS := hS.trans hc21 (Ok.nil _ _)
     refine ae hK20 hS ?_; clear hK20 K20
     refine ac 6 (by kernel_rfl) (by rfl) fun K23 hK23 => ?_
     obtain ⟨t24, H24, H⟩ := bind_some H
     refine cl ha (by rfl) (by kernel_rfl) (by rfl) (by rfl) (by rfl) (bytes_trimLeftByte.walk w21 _ hM t21 ao22 cap22 f22 ((a1.getD (Int.toNat (0 : Int)) 0).toNat : Int) k _ H24) ?_
     rintro _ w24 ⟨ao25, cap25, rfl, f25, hc24, hMn⟩ a ha
     have o1 : Ok [] (M) w21.heap.size := Ok.nil _ _
     have o2 : Ok (M) (M) w21.heap.size := (Ok.refl _ _)
     have f1 := f1.chg hc24 o1 o2
     have f22 := f22.chg hc24 o1 o2
     have hM : MS (M) w24 := (hM.chg hc24)
     have hC := hC.trans hc24 (Ok.nil _ _)
     have hS := hS.trans hc24 (Ok.nil _ _)
     refine ae hK23 hS ?_; clear hK23 K23
     refine tkpz 7 0 (.slice ao25 t24.length cap25) ha (s := hS) (q := fun a ha => ?_)
     refine dn (by kernel_rfl) ?_
     refine hK15 _ _ ?_; try clear hK15 K15
     refine wp_ret ?_
     try simp only [Exit.then, Exit.inBlock]
     obtain rfl := Option.some.inj H
     refine rt1 ha rfl rfl ?_
     exact ⟨ao25, cap25, rfl, f25, hC, hM⟩
    ·have H := ite_f hc14 H
     exact nomatch (show none = some _ from H)
   have H := H13
   refine seg ha 4 [(16, .bool (((bstr a1).size : Int) == (1 : Int))), (0, .slice ao1 a0.length cap1), (1, .string (bstr a1))] (by kernel_rfl) fun a ha => ?_
   rcases Bool.eq_false_or_eq_true (((bstr a1).size : Int) == (1 : Int)) with hb26 | hb26
   ·have ha := ha.lit hb26
    have H := ite_t hb26 H
    refine sgh ha 1 [2] [(0, .slice ao1 a0.length cap1), (1, .string (bstr a1)), (16, .bool true), (17, .string (bstr a1))] (by kernel_rfl) fun a ha => ?_
    obtain ⟨⟨hx27, hx27'⟩, H⟩ := ite_some H
    refine hop (v := .int .u8 ((a1.getD (Int.toNat (0 : Int)) 0).toNat : Int)) (w' := w) ha rfl rfl rfl (sidx_run (l := a1) (k := .i64) (i := (0 : Int)) ha (by kernel_rfl) (by rfl) (by rfl) hx27 hx27' _) fun a ha => ?_
    refine sgh ha 2 [2, 3] [(0, .slice ao1 a0.length cap1), (1, .string (bstr a1)), (20, .bool (decide (((a1.getD (Int.toNat (0 : Int)) 0).toNat : Int) < (128 : Int))))] (by kernel_rfl) fun a ha => ?_
    obtain rfl := Option.some.inj H
    exact J13 _ _ (ha.sel (by kernel_rfl)) f1 hC hM
   ·have ha := ha.lit hb26
    have H := ite_f hb26 H
    refine sgh ha 4 [1, 1, 1, 4] [(0, .slice ao1 a0.length cap1), (1, .string (bstr a1)), (20, .bool false)] (by kernel_rfl) fun a ha => ?_
    obtain rfl := Option.some.inj H
    exact J13 _ _ (ha.sel (by kernel_rfl)) f1 hC hM
def addr_Right.f (k : Nat) (a0 : S_api_Addr) : Option (Bool) := ((if (a0.Size == (0 : Int)) = true then some (a0.Size == (0 : Int) : Bool) else (if (a0.Size == (4 : Int)) = true then some (a0.Size == (4 : Int) : Bool) else some (a0.Size == (16 : Int) : Bool)))).bind fun s10 => (if s10 = true then (if 0 ≤ a0.Size ∧ a0.Size ≤ (16 : Int) ∧ (16 : Int) ≤ (16 : Int) then (bytes_Trim.f k (((arL 16 a0.B).take (Int.toNat (16 : Int))).drop (Int.toNat a0.Size)) ([0] : List UInt8)).bind fun t15 => some (((t15.length : Int) == (0 : Int) : Bool)) else none) else some ((false : Bool)))
set_option maxRecDepth 100000 in
theorem addr_Right.walk (w : World) (M : List Nat) (hM : MS M w) (a0 : S_api_Addr) (k : Nat) (r : Bool) (H : addr_Right.f k a0 = some r) :
    To Tryz.prog 60 [.agg (cS_api_Addr a0).toArray] w fun v w' => v = .bool r ∧ Chg [] w w' ∧ MS (M) w' := by
 unfold addr_Right.f at H
 refine ent Tryz.func60 rfl [(0, .agg (cS_api_Addr a0).toArray)] rfl (by rfl) fun a ha => ?_
 have hC : Chg [] w w := Chg.refl _ _
 refine wp_seq_k fun K1 hK1 => ?_
 refine wp_region_lit ?_
 refine bx (cs := (cS_api_Addr a0)) ha rfl rfl rfl rfl rfl fun a w2 g3 hN4 ha => ?_
 have hn6 := hN4.notin hM
 have hM : MS (M) w2 := (hM.chg hN4.chg)
 have hC := hC.trans hN4.chg (Ok.nil _ _)
 have hE5 : ∀ j v, (cS_api_Addr a0)[j]? = some v → w2.cell? ⟨g3, 0 + j, none⟩ = some v := Box.cells (New.box hN4)
 refine seg ha 1 [(1, .pointer (some ⟨g3, 0, none⟩))] (by kernel_rfl) fun a ha => ?_
 refine hK1 _ _ ?_; try clear hK1 K1
 refine wp_seq_k fun K7 hK7 => ?_
 refine wp_seq_k fun K8 hK8 => ?_
 refine wp_region_lit ?_
 refine seg ha 1 [(1, .pointer (some ⟨g3, 0, none⟩)), (3, .pointer (some ⟨g3, 0, none⟩))] (by kernel_rfl) fun a ha => ?_
 refine ld ha rfl (by kernel_rfl) rfl rfl rfl (hE5 0 (.int .i64 a0.Size) (by kernel_rfl)) fun a ha => ?_
 refine hK8 _ _ ?_; try clear hK8 K8
 refine wp_block ?_
 refine wp_seq_k fun K9 hK9 => ?_
 obtain ⟨s10, H10, H⟩ := bind_some H
 have J10 : ∀ (a : Act) (w10 : World), Has a Tryz.f60.ntmps [(1, .pointer (some ⟨g3, 0, none⟩)), (5, .bool s10)] → (∀ j v, (cS_api_Addr a0)[j]? = some v → w10.cell? ⟨g3, 0 + j, none⟩ = some v) → (g3 ∉ (M)) → (Chg [] w w10) → (MS (M) w10) → K9 a w10 := by
  intro a w10 ha hE5 hn6 hC hM
  refine hK9 _ _ ?_; try clear hK9 K9
  refine cnd ha rfl (fun hc11 => ?_) (fun hc11 => ?_)
  ·have H := ite_t hc11 H
   refine wp_seq_k fun K12 hK12 => ?_
   refine wp_region_lit ?_
   refine seg ha 2 [(9, .pointer (some ⟨g3, 0 + 1, none⟩)), (10, .pointer (some ⟨g3, 0, none⟩))] (by kernel_rfl) fun a ha => ?_
   refine ld ha rfl (by kernel_rfl) rfl rfl rfl (hE5 0 (.int .i64 a0.Size) (by kernel_rfl)) fun a ha => ?_
   have f13 : RSl (rInt .u8) 5 w10 (M) (some ⟨g3, 0 + 1, none⟩) 16 (arL 16 a0.B) := RSl.ofA [.int .i64 a0.Size] [] hE5 hn6 (by kernel_rfl) rfl
   obtain ⟨⟨hx14, hx14', hx14''⟩, H⟩ := ite_some H
   obtain ⟨ao14, cap14, f14, hr14⟩ := slA_run (kk := .u8) (T := 5) (N := 16) (g := g3) (o' := 0 + 1) (xs := (arL 16 a0.B)) (t := 31) (lo := (Option.some (Operand.tmp 11))) (hi := Option.none) (l := a0.Size) (h := (16 : Int)) (dd := some 12) (ty := 67) (pos := "addr.go:24") (af := #[{ on := 0, ground := Ground.data }, { on := 2, ground := Ground.data }]) (gd := Option.none) ha (by kernel_rfl) (by kernel_rfl) (x := (Operand.tmp 9)) rfl (arL_length _ _) rfl rfl f13 hx14 hx14' (by rw [arL_length]; exact hx14'')
   refine hop (v := .slice ao14 (((arL 16 a0.B).take (Int.toNat (16 : Int))).drop (Int.toNat a0.Size)).length cap14) (w' := w10) ha rfl rfl rfl (hr14 _) fun a ha => ?_
   obtain ⟨t15, H15, H⟩ := bind_some H
   refine cl ha (by rfl) (by kernel_rfl) (by rfl) (by rfl) (by rfl) (bytes_Trim.walk w10 _ hM (((arL 16 a0.B).take (Int.toNat (16 : Int))).drop (Int.toNat a0.Size)) ao14 cap14 f14 ([0] : List UInt8) k _ H15) ?_
   rintro _ w15 ⟨ao16, cap16, rfl, f16, hc15, hMn⟩ a ha
   have o1 : Ok [] (M) w10.heap.size := Ok.nil _ _
   have o2 : Ok (M) (M) w10.heap.size := (Ok.refl _ _)
   have f14 := f14.chg hc15 o1 o2
   have hM : MS (M) w15 := (hM.chg hc15)
   have hC := hC.trans hc15 (Ok.nil _ _)
   refine seg ha 3 [(2, .bool ((t15.length : Int) == (0 : Int)))] (by kernel_rfl) fun a ha => ?_
   refine hK12 _ _ ?_; try clear hK12 K12
   refine wp_ret ?_
   try simp only [Exit.then, Exit.inBlock]
   obtain rfl := Option.some.inj H
   refine rt1 ha rfl rfl ?_
   exact ⟨rfl, hC, hM⟩
  ·have H := ite_f hc11 H
   refine wp_skip ?_
   refine hK7 _ _ ?_; try clear hK7 K7
   refine wp_seq_k fun K17 hK17 => ?_
   refine wp_region_lit ?_
   refine seg ha 1 [(2, .bool false)] (by kernel_rfl) fun a ha => ?_
   refine hK17 _ _ ?_; try clear hK17 K17
   refine wp_ret ?_
   try simp only [Exit.then, Exit.inBlock]
   obtain rfl := Option.some.inj H
   refine rt1 ha rfl rfl ?_
   exact ⟨rfl, hC, hM⟩
 have H := H10
 refine wp_seq_k fun K18 hK18 => ?_
 refine wp_region_lit ?_
 refine seg ha 2 [(1, .pointer (some ⟨g3, 0, none⟩)), (4, .int .i64 a0.Size), (5, .bool (a0.Size == (0 : Int)))] (by kernel_rfl) fun a ha => ?_
 refine hK18 _ _ ?_; try clear hK18 K18
 refine cnd ha rfl (fun hc19 => ?_) (fun hc19 => ?_)
 ·have H := ite_t hc19 H
  refine wp_skip ?_
  obtain rfl := Option.some.inj H
  exact J10 _ _ (ha.sel (by kernel_rfl)) hE5 hn6 hC hM
 ·have H := ite_f hc19 H
  refine wp_seq_k fun K20 hK20 => ?_
  refine wp_region_lit ?_
  refine seg ha 2 [(1, .pointer (some ⟨g3, 0, none⟩)), (4, .int .i64 a0.Size), (5, .bool (a0.Size == (4 : Int)))] (by kernel_rfl) fun a ha => ?_
  refine hK20 _ _ ?_; try clear hK20 K20
  refine cnd ha rfl (fun hc21 => ?_) (fun hc21 => ?_)
  ·have H := ite_t hc21 H
   refine wp_skip ?_
   obtain rfl := Option.some.inj H
   exact J10 _ _ (ha.sel (by kernel_rfl)) hE5 hn6 hC hM
  ·have H := ite_f hc21 H
   refine wp_region_lit ?_
   refine seg ha 2 [(1, .pointer (some ⟨g3, 0, none⟩)), (5, .bool (a0.Size == (16 : Int)))] (by kernel_rfl) fun a ha => ?_
   obtain rfl := Option.some.inj H
   exact J10 _ _ (ha.sel (by kernel_rfl)) hE5 hn6 hC hM

def strings_Join.f (a0 : List (List UInt8)) (a1 : List UInt8) : Option (List UInt8) := if a0.length ≤ 140737488355328 ∧ (Lib.join a0 a1).length ≤ 140737488355328 then some (Lib.join a0 a1) else none
theorem strings_Join.walk (w : World) (M : List Nat) (hM : MS M w) (a0 : List (List UInt8)) (ao1 : Option Addr) (cap1 : Nat) (f1 : RSl rStr 9 w M ao1 cap1 a0) (a1 : List UInt8) (r : List UInt8) (H : strings_Join.f a0 a1 = some r) :
    To Tryz.prog 83 [.slice ao1 a0.length cap1, .string (bstr a1)] w fun v w' => v = .string (bstr r) ∧ Chg [] w w' ∧ MS M w' := by
  unfold strings_Join.f at H
  obtain ⟨⟨h0, h1⟩, H⟩ := ite_some H
  obtain rfl := Option.some.inj H
  have e1 : (bstr a1).data.toList = a1 := by simp [bstr]
  by_cases hn : a0 = []
  · subst hn
    refine Calls.mono (Tryz.strings_Join_none ao1 cap1 (bstr a1) w) ?_
    rintro e w' ⟨rfl, rfl⟩
    exact ⟨_, rfl, rfl, Chg.refl _ _, hM⟩
  · have hl : 0 < a0.length := List.length_pos_iff.2 hn
    obtain ⟨g, o, cs, rfl, _, _, hc⟩ := RSl.elem f1 0 hl
    have hcells : ∀ (j : Nat) x, (a0.map bstr)[j]? = some x → w.cell? ⟨g, o + j, none⟩ = some (.string x) := by
      intro j x hj
      rw [List.getElem?_map] at hj
      obtain ⟨y, hy, rfl⟩ := Option.map_eq_some_iff.1 hj
      obtain ⟨hjl, rfl⟩ := List.getElem?_eq_some_iff.1 hy
      obtain ⟨g', o', cs', e, _, hR, hc'⟩ := RSl.elem f1 j hjl
      cases e
      have hcs : cs' = [.string (bstr a0[j])] := hR
      subst hcs
      have := hc' 0 _ rfl
      simpa [rStr] using this
    have hbk : g < w.heap.size := by
      have h2 := hcells 0 (bstr a0[0]) (by rw [List.getElem?_map, List.getElem?_eq_getElem hl]; rfl)
      exact lt_cell h2
    have em : (a0.map bstr).map (·.data.toList) = a0 := by rw [List.map_map]; conv => rhs; rw [← List.map_id a0]; 
                                                           exact List.map_congr_left fun x _ => by simp [bstr]
    have h := Tryz.strings_Join g o cap1 (a0.map bstr) (bstr a1) w hcells hbk (by rw [List.length_map]; exact h0) (by rw [List.length_map]; exact f1.1) (by rw [em, e1]; exact h1)
    rw [em, e1, List.length_map] at h
    refine Calls.mono h ?_
    rintro e w' ⟨rfl, hb⟩
    exact ⟨_, rfl, rfl, chg_below hb, hM.chg (chg_below hb)⟩

def addr_numbers.l0 (a0 : S_api_Addr) : Nat → Int → (List Int) → Option (List Int)
  | 0, _, _ => none
  | kk + 1, x14, x15 => (if (decide (x14 < (8 : Int))) = true then (if 0 ≤ (IntKind.i64.wrap ((2 : Int) * x14)) ∧ (IntKind.i64.wrap ((2 : Int) * x14)) < (16 : Int) then (if 0 ≤ (IntKind.i64.wrap ((IntKind.i64.wrap ((2 : Int) * x14)) + (1 : Int))) ∧ (IntKind.i64.wrap ((IntKind.i64.wrap ((2 : Int) * x14)) + (1 : Int))) < (16 : Int) then (if 0 ≤ x14 ∧ x14 < (8 : Int) then addr_numbers.l0 a0 kk (IntKind.i64.wrap (x14 + (1 : Int))) ((arL 8 x15).set (Int.toNat x14) (IntKind.i64.wrap (BitVec.ofInt IntKind.i64.bits (IntKind.i64.wrap ((IntKind.i64.wrap (ar a0.B (Int.toNat (IntKind.i64.wrap ((2 : Int) * x14))))) * 2 ^ (min (8 : Int).toNat IntKind.i64.bits))) ||| BitVec.ofInt IntKind.i64.bits (IntKind.i64.wrap (ar a0.B (Int.toNat (IntKind.i64.wrap ((IntKind.i64.wrap ((2 : Int) * x14)) + (1 : Int))))))).toNat)) else none) else none) else none) else some (x15 : List Int))
def addr_numbers.f (k : Nat) (a0 : S_api_Addr) : Option (List Int) := (addr_numbers.l0 a0 k (0 : Int) (List.replicate 8 (0 : Int))).bind fun s13 => some ((s13 : List Int))
set_option maxRecDepth 100000 in
theorem addr_numbers.walk (w : World) (M : List Nat) (hM : MS M w) (a0 : S_api_Addr) (k : Nat) (r : List Int) (H : addr_numbers.f k a0 = some r) :
    To Tryz.prog 113 [.agg (cS_api_Addr a0).toArray] w fun v w' => v = .agg (cA .i64 8 r).toArray ∧ Chg [] w w' ∧ MS (M) w' := by
 unfold addr_numbers.f at H
 refine ent Tryz.func113 rfl [(0, .agg (cS_api_Addr a0).toArray)] rfl (by rfl) fun a ha => ?_
 have hC : Chg [] w w := Chg.refl _ _
 refine wp_seq_k fun K1 hK1 => ?_
 refine wp_region_lit ?_
 refine bx (cs := (cS_api_Addr a0)) ha rfl rfl rfl rfl rfl fun a w2 g3 hN4 ha => ?_
 have hn6 := hN4.notin hM
 have hM : MS (M) w2 := (hM.chg hN4.chg)
 have hC := hC.trans hN4.chg (Ok.nil _ _)
 have hE5 : ∀ j v, (cS_api_Addr a0)[j]? = some v → w2.cell? ⟨g3, 0 + j, none⟩ = some v := Box.cells (New.box hN4)
 refine al (cs := (cA .i64 8 (List.replicate 8 (0 : Int)))) (z := .agg (cA .i64 8 (List.replicate 8 (0 : Int))).toArray) ha (fun w => by kernel_rfl) rfl rfl rfl rfl fun a w7 g8 hN9 ha => ?_
 have o1 : Ok [] (M) w2.heap.size := Ok.nil _ _
 have o2 : Ok ([g8] ++ (M)) (M) w2.heap.size := (Ok.app (hN9.ok _) (Ok.refl _ _))
 have q_hn6 : g3 ∉ [g8] ++ (M) := fun h => (o2 g3 h).elim hn6 (fun h => absurd (lt_cell (hE5 0 _ rfl)) (Nat.not_lt.2 h))
 have hE5 : ∀ j v, (cS_api_Addr a0)[j]? = some v → w7.cell? ⟨g3, 0 + j, none⟩ = some v := fun j v hv => (cell_keep hN9.chg o1 hn6 (hE5 j v hv))
 have hn6 := q_hn6
 have p_i10_M : ∀ x ∈ [g8], x ∉ M := fun x hx hy => absurd (hM x (hy)) (Nat.not_lt.2 ((hN9.ge1) x hx))
 have e_i10 : ∀ x ∈ [g8], w.heap.size ≤ x := fun x hx => Nat.le_trans hC.size ((hN9.ge1) x hx)
 have hM : MS ([g8] ++ (M)) w7 := (MS.app hN9.ms (hM.chg hN9.chg))
 have hC := hC.trans hN9.chg (Ok.nil _ _)
 have hBg8 : Box w7 g8 (cA .i64 8 (List.replicate 8 (0 : Int))) := hN9.box
 refine hK1 _ _ ?_; try clear hK1 K1
 refine wp_seq_k fun K11 hK11 => ?_
 refine wp_seq_k fun K12 hK12 => ?_
 refine wp_region_lit ?_
 refine seg ha 1 [(1, .pointer (some ⟨g3, 0, none⟩)), (2, .pointer (some ⟨g8, 0, none⟩)), (4, .int .i64 (0 : Int))] (by kernel_rfl) fun a ha => ?_
 refine hK12 _ _ ?_; try clear hK12 K12
 refine wp_block ?_
 obtain ⟨s13, H13, H⟩ := bind_some H
 have J13 : ∀ (a : Act) (wx13 : World), Has a Tryz.f113.ntmps [(2, .pointer (some ⟨g8, 0, none⟩))] → (Box wx13 g8 (cA .i64 8 s13)) → (Chg [] w wx13) → (MS ([g8] ++ (M)) wx13) → K11 a wx13 := by
  intro a wx13 ha hBg8 hC hM
  refine hK11 _ _ ?_; try clear hK11 K11
  refine wp_seq_k fun K16 hK16 => ?_
  refine wp_region_lit ?_
  refine ldA (cs := (cA .i64 8 s13)) ha rfl (by kernel_rfl) rfl rfl rfl (cells_sub (Box.cells hBg8) (all := (cA .i64 8 s13)) [] [] (by kernel_rfl)) fun a ha => ?_
  refine stA (l := (cA .i64 8 s13)) ha rfl rfl rfl (by kernel_rfl) rfl rfl hBg8 rfl fun a w17 ha hb2 hc18 _ => ?_
  have hM : MS ([g8] ++ (M)) w17 := (hM.chg hc18)
  have hC := hC.trans hc18 (fun x h => .inr (e_i10 x h))
  have hBg8 : Box w17 g8 (cA .i64 8 s13) := hb2
  refine hK16 _ _ ?_; try clear hK16 K16
  refine wp_ret ?_
  try simp only [Exit.then, Exit.inBlock]
  have hBg8 := hBg8.chg (Chg.refl [] _) (fun h => nomatch h)
  have hM : MS (M) w17 := (fun x h => hM.chg (Chg.refl [] _) x (mr (h)))
  have hC := hC.trans (Chg.refl [] _) (Ok.nil _ _)
  obtain rfl := Option.some.inj H
  refine rtr ha (res1 rfl (roA ha rfl hBg8 (by kernel_rfl))) ?_
  exact ⟨rfl, hC, hM⟩
 have Hc13 := H
 have H := H13
 refine wp_loop_ghost (fun kk a w13 => ∃ (x14 : Int) (x15 : List Int), addr_numbers.l0 a0 kk x14 x15 = some s13 ∧ Has a Tryz.f113.ntmps [(1, .pointer (some ⟨g3, 0, none⟩)), (2, .pointer (some ⟨g8, 0, none⟩)), (4, .int .i64 x14)] ∧ (Box w13 g8 (cA .i64 8 x15)) ∧ (∀ j v, (cS_api_Addr a0)[j]? = some v → w13.cell? ⟨g3, 0 + j, none⟩ = some v) ∧ (g3 ∉ ([g8] ++ (M))) ∧ (Chg [] w w13) ∧ (MS ([g8] ++ (M)) w13)) k ?_ ?_
 ·skip
  exact ⟨(0 : Int), (List.replicate 8 (0 : Int)), H, (ha.sel (by kernel_rfl)), hBg8, hE5, hn6, hC, hM⟩
 ·rintro kk a w13 ⟨x14, x15, H, ha, hBg8, hE5, hn6, hC, hM⟩
  obtain _ | kk := kk
  ·exact nomatch (show none = some _ from H)
  rw [addr_numbers.l0] at H
  refine wp_seq_k fun K19 hK19 => ?_
  refine wp_region_lit ?_
  refine seg ha 1 [(1, .pointer (some ⟨g3, 0, none⟩)), (2, .pointer (some ⟨g8, 0, none⟩)), (4, .int .i64 x14), (5, .bool (decide (x14 < (8 : Int))))] (by kernel_rfl) fun a ha => ?_
  refine hK19 _ _ ?_; try clear hK19 K19
  refine wp_seq_k fun K20 hK20 => ?_
  refine cnd ha rfl (fun hc21 => ?_) (fun hc21 => ?_)
  ·have H := ite_t hc21 H
   refine wp_skip ?_
   refine hK20 _ _ ?_; try clear hK20 K20
   refine wp_seq_k fun K22 hK22 => ?_
   refine wp_block ?_
   refine wp_seq_k fun K23 hK23 => ?_
   refine wp_region_lit ?_
   refine seg ha 2 [(1, .pointer (some ⟨g3, 0, none⟩)), (2, .pointer (some ⟨g8, 0, none⟩)), (3, .int .i64 x14), (4, .int .i64 x14)] (by kernel_rfl) fun a ha => ?_
   refine hK23 _ _ ?_; try clear hK23 K23
   refine drq 17 (fun w' => Chg [] w13 w') (by kernel_rfl) (by kernel_rfl) (fun _ h => h) ?_
   refine qp 0 (.int .i64 x14) ha rfl rfl rfl (by kernel_rfl) fun a ha => ?_
   refine qp 0 (.int .i64 x14) ha rfl rfl rfl (by kernel_rfl) fun a ha => ?_
   refine qp 0 (.int .i64 (IntKind.i64.wrap ((2 : Int) * x14))) ha rfl rfl rfl (by kernel_rfl) fun a ha => ?_
   refine qp 0 (.pointer (some ⟨g3, 0 + 1, none⟩)) ha rfl rfl rfl (by kernel_rfl) fun a ha => ?_
   obtain ⟨⟨hx24, hx24'⟩, H⟩ := ite_some H
   have hE24 : ∀ j v, ([.int .u8 (ar a0.B (Int.toNat (IntKind.i64.wrap ((2 : Int) * x14))))] : List Value)[j]? = some v → w13.cell? ⟨g3, (0 + 1 + (Int.toNat (IntKind.i64.wrap ((2 : Int) * x14)))) + j, none⟩ = some v := cellA (m := 16) [.int .i64 a0.Size] [] hE5 (by kernel_rfl) (by omega)
   have hn24 := hn6
   refine qv (v := .pointer (some ⟨g3, (0 + 1 + (Int.toNat (IntKind.i64.wrap ((2 : Int) * x14)))), none⟩)) ha rfl rfl rfl (fun w' hs => ixA_run (T := 5) (N := 16) (g := g3) (o' := 0 + 1) (k := .i64) (i := IntKind.i64.wrap ((2 : Int) * x14)) ha (by kernel_rfl) (by kernel_rfl) (by rfl) (by rfl) hx24 hx24' w') fun a ha => ?_
   refine qv (v := .int .u8 (ar a0.B (Int.toNat (IntKind.i64.wrap ((2 : Int) * x14))))) ha rfl rfl rfl (fun w' hs => ld_run ha rfl (by kernel_rfl) (hs.keep (hE24 0 (.int .u8 (ar a0.B (Int.toNat (IntKind.i64.wrap ((2 : Int) * x14))))) (by kernel_rfl)))) fun a ha => ?_
   refine qp 0 (.int .i64 (IntKind.i64.wrap (ar a0.B (Int.toNat (IntKind.i64.wrap ((2 : Int) * x14)))))) ha rfl rfl rfl (by kernel_rfl) fun a ha => ?_
   refine qp 0 (.int .i64 (IntKind.i64.wrap ((IntKind.i64.wrap (ar a0.B (Int.toNat (IntKind.i64.wrap ((2 : Int) * x14))))) * 2 ^ (min (8 : Int).toNat IntKind.i64.bits)))) ha rfl rfl rfl (by kernel_rfl) fun a ha => ?_
   refine qp 0 (.int .i64 x14) ha rfl rfl rfl (by kernel_rfl) fun a ha => ?_
   refine qp 0 (.int .i64 (IntKind.i64.wrap ((2 : Int) * x14))) ha rfl rfl rfl (by kernel_rfl) fun a ha => ?_
   refine qp 0 (.int .i64 (IntKind.i64.wrap ((IntKind.i64.wrap ((2 : Int) * x14)) + (1 : Int)))) ha rfl rfl rfl (by kernel_rfl) fun a ha => ?_
   refine qp 0 (.pointer (some ⟨g3, 0 + 1, none⟩)) ha rfl rfl rfl (by kernel_rfl) fun a ha => ?_
   obtain ⟨⟨hx25, hx25'⟩, H⟩ := ite_some H
   have hE25 : ∀ j v, ([.int .u8 (ar a0.B (Int.toNat (IntKind.i64.wrap ((IntKind.i64.wrap ((2 : Int) * x14)) + (1 : Int)))))] : List Value)[j]? = some v → w13.cell? ⟨g3, (0 + 1 + (Int.toNat (IntKind.i64.wrap ((IntKind.i64.wrap ((2 : Int) * x14)) + (1 : Int))))) + j, none⟩ = some v := cellA (m := 16) [.int .i64 a0.Size] [] hE5 (by kernel_rfl) (by omega)
   have hn25 := hn6
   refine qv (v := .pointer (some ⟨g3, (0 + 1 + (Int.toNat (IntKind.i64.wrap ((IntKind.i64.wrap ((2 : Int) * x14)) + (1 : Int))))), none⟩)) ha rfl rfl rfl (fun w' hs => ixA_run (T := 5) (N := 16) (g := g3) (o' := 0 + 1) (k := .i64) (i := IntKind.i64.wrap ((IntKind.i64.wrap ((2 : Int) * x14)) + (1 : Int))) ha (by kernel_rfl) (by kernel_rfl) (by rfl) (by rfl) hx25 hx25' w') fun a ha => ?_
   refine qv (v := .int .u8 (ar a0.B (Int.toNat (IntKind.i64.wrap ((IntKind.i64.wrap ((2 : Int) * x14)) + (1 : Int)))))) ha rfl rfl rfl (fun w' hs => ld_run ha rfl (by kernel_rfl) (hs.keep (hE25 0 (.int .u8 (ar a0.B (Int.toNat (IntKind.i64.wrap ((IntKind.i64.wrap ((2 : Int) * x14)) + (1 : Int)))))) (by kernel_rfl)))) fun a ha => ?_
   refine qp 0 (.int .i64 (IntKind.i64.wrap (ar a0.B (Int.toNat (IntKind.i64.wrap ((IntKind.i64.wrap ((2 : Int) * x14)) + (1 : Int))))))) ha rfl rfl rfl (by kernel_rfl) fun a ha => ?_
   refine qp 0 (.int .i64 (IntKind.i64.wrap (BitVec.ofInt IntKind.i64.bits (IntKind.i64.wrap ((IntKind.i64.wrap (ar a0.B (Int.toNat (IntKind.i64.wrap ((2 : Int) * x14))))) * 2 ^ (min (8 : Int).toNat IntKind.i64.bits))) ||| BitVec.ofInt IntKind.i64.bits (IntKind.i64.wrap (ar a0.B (Int.toNat (IntKind.i64.wrap ((IntKind.i64.wrap ((2 : Int) * x14)) + (1 : Int))))))).toNat)) ha rfl rfl rfl (by kernel_rfl) fun a ha => ?_
   obtain ⟨⟨hx26, hx26'⟩, H⟩ := ite_some H
   have hi26 : (Int.toNat x14) < 8 := by omega
   refine qv (v := .pointer (some ⟨g8, 0 + (Int.toNat x14), none⟩)) ha rfl rfl rfl (fun w' hs => ixA_run (T := 3) (N := 8) (g := g8) (o' := 0) (k := .i64) (i := x14) ha (by kernel_rfl) (by kernel_rfl) (by rfl) (by rfl) hx26 hx26' w') fun a ha => ?_
   refine wpQuiet_nil ?_
   intro w27 hc28
   have o1 : Ok [] ([g8] ++ (M)) w13.heap.size := Ok.nil _ _
   have o2 : Ok ([g8] ++ (M)) ([g8] ++ (M)) w13.heap.size := (Ok.refl _ _)
   have hBg8 := hBg8.chg hc28 (fun h => nomatch h)
   have q_hn6 : g3 ∉ [g8] ++ (M) := fun h => (o2 g3 h).elim hn6 (fun h => absurd (lt_cell (hE5 0 _ rfl)) (Nat.not_lt.2 h))
   have hE5 : ∀ j v, (cS_api_Addr a0)[j]? = some v → w27.cell? ⟨g3, 0 + j, none⟩ = some v := fun j v hv => (cell_keep hc28 o1 hn6 (hE5 j v hv))
   have hn6 := q_hn6
   have q_hn24 : g3 ∉ [g8] ++ (M) := fun h => (o2 g3 h).elim hn24 (fun h => absurd (lt_cell (hE24 0 _ rfl)) (Nat.not_lt.2 h))
   have hE24 : ∀ j v, ([.int .u8 (ar a0.B (Int.toNat (IntKind.i64.wrap ((2 : Int) * x14))))] : List Value)[j]? = some v → w27.cell? ⟨g3, (0 + 1 + (Int.toNat (IntKind.i64.wrap ((2 : Int) * x14)))) + j, none⟩ = some v := fun j v hv => (cell_keep hc28 o1 hn24 (hE24 j v hv))
   have hn24 := q_hn24
   have q_hn25 : g3 ∉ [g8] ++ (M) := fun h => (o2 g3 h).elim hn25 (fun h => absurd (lt_cell (hE25 0 _ rfl)) (Nat.not_lt.2 h))
   have hE25 : ∀ j v, ([.int .u8 (ar a0.B (Int.toNat (IntKind.i64.wrap ((IntKind.i64.wrap ((2 : Int) * x14)) + (1 : Int)))))] : List Value)[j]? = some v → w27.cell? ⟨g3, (0 + 1 + (Int.toNat (IntKind.i64.wrap ((IntKind.i64.wrap ((2 : Int) * x14)) + (1 : Int))))) + j, none⟩ = some v := fun j v hv => (cell_keep hc28 o1 hn25 (hE25 j v hv))
   have hn25 := q_hn25
   have hM : MS ([g8] ++ (M)) w27 := (hM.chg hc28)
   have hC := hC.trans hc28 (Ok.nil _ _)
   refine st (o' := 0 + (Int.toNat x14)) ha rfl rfl rfl (by kernel_rfl) rfl rfl hBg8 (arr_lt (k := .i64) (m := 8) (x := x15) ([] : List Value) ([] : List Value) (by kernel_rfl) hi26) fun a w29 ha hb2 hc30 _ => ?_
   have o1 : Ok [g8] ([g8] ++ (M)) w27.heap.size := (fun _ h => .inl (ml h))
   have o2 : Ok ([g8] ++ (M)) ([g8] ++ (M)) w27.heap.size := (Ok.refl _ _)
   have q_hn6 : g3 ∉ [g8] ++ (M) := fun h => (o2 g3 h).elim hn6 (fun h => absurd (lt_cell (hE5 0 _ rfl)) (Nat.not_lt.2 h))
   have hE5 : ∀ j v, (cS_api_Addr a0)[j]? = some v → w29.cell? ⟨g3, 0 + j, none⟩ = some v := fun j v hv => (cell_keep hc30 o1 hn6 (hE5 j v hv))
   have hn6 := q_hn6
   have hM : MS ([g8] ++ (M)) w29 := (hM.chg hc30)
   have hC := hC.trans hc30 (fun x h => .inr (e_i10 x h))
   have hBg8 : Box w29 g8 (cA .i64 8 ((arL 8 x15).set (Int.toNat x14) (IntKind.i64.wrap (BitVec.ofInt IntKind.i64.bits (IntKind.i64.wrap ((IntKind.i64.wrap (ar a0.B (Int.toNat (IntKind.i64.wrap ((2 : Int) * x14))))) * 2 ^ (min (8 : Int).toNat IntKind.i64.bits))) ||| BitVec.ofInt IntKind.i64.bits (IntKind.i64.wrap (ar a0.B (Int.toNat (IntKind.i64.wrap ((IntKind.i64.wrap ((2 : Int) * x14)) + (1 : Int))))))).toNat))) := Box.setA (k := .i64) (m := 8) (x := x15) ([] : List Value) ([] : List Value) hb2 (by kernel_rfl) hi26 (by kernel_rfl)
   refine hK22 _ _ ?_; try clear hK22 K22
   refine wp_region_lit ?_
   refine seg ha 2 [(1, .pointer (some ⟨g3, 0, none⟩)), (2, .pointer (some ⟨g8, 0, none⟩)), (4, .int .i64 (IntKind.i64.wrap (x14 + (1 : Int))))] (by kernel_rfl) fun a ha => ?_
   exact ⟨kk, Nat.lt_succ_self _, ⟨IntKind.i64.wrap (x14 + (1 : Int)), ((arL 8 x15).set (Int.toNat x14) (IntKind.i64.wrap (BitVec.ofInt IntKind.i64.bits (IntKind.i64.wrap ((IntKind.i64.wrap (ar a0.B (Int.toNat (IntKind.i64.wrap ((2 : Int) * x14))))) * 2 ^ (min (8 : Int).toNat IntKind.i64.bits))) ||| BitVec.ofInt IntKind.i64.bits (IntKind.i64.wrap (ar a0.B (Int.toNat (IntKind.i64.wrap ((IntKind.i64.wrap ((2 : Int) * x14)) + (1 : Int))))))).toNat)), H, (ha.sel (by kernel_rfl)), hBg8, hE5, hn6, hC, hM⟩⟩
  ·have H := ite_f hc21 H
   refine wp_exit ?_
   simp only [Exit.then, Exit.inBlock, ↓reduceIte, Nat.reduceEqDiff]
   obtain rfl := Option.some.inj H
   exact J13 _ _ (ha.sel (by kernel_rfl)) hBg8 hC hM
def addr_gap.l1 (a0 : List Int) (x12 : Int) : Nat → Int → Option (Int)
  | 0, _ => none
  | kk + 1, x22 => ((if (decide ((IntKind.i64.wrap (x12 + x22)) < (8 : Int))) = true then (if 0 ≤ (IntKind.i64.wrap (x12 + x22)) ∧ (IntKind.i64.wrap (x12 + x22)) < (8 : Int) then some ((ar a0 (Int.toNat (IntKind.i64.wrap (x12 + x22)))) == (0 : Int) : Bool) else none) else some (false : Bool))).bind fun s27 => (if s27 = true then addr_gap.l1 a0 x12 kk (IntKind.i64.wrap (x22 + (1 : Int))) else some (x22 : Int))
def addr_gap.l0 (k : Nat) (a0 : List Int) : Nat → Int → Int → Int → Option (Int × Int)
  | 0, _, _, _ => none
  | kk + 1, x10, x11, x12 => (if (decide (x12 < (8 : Int))) = true then (addr_gap.l1 a0 x12 k (0 : Int)).bind fun s21 => (if (decide (s21 > x11)) = true then addr_gap.l0 k a0 kk x12 s21 (IntKind.i64.wrap (x12 + (1 : Int))) else addr_gap.l0 k a0 kk x10 x11 (IntKind.i64.wrap (x12 + (1 : Int)))) else some ((x10 : Int), (x11 : Int)))
def addr_gap.f (k : Nat) (a0 : List Int) : Option (Int × Int) := (addr_gap.l0 k a0 k (0 : Int) (0 : Int) (0 : Int)).bind fun s9 => some ((s9.1 : Int), (s9.2 : Int))
set_option maxRecDepth 100000 in
theorem addr_gap.walk (w : World) (M : List Nat) (hM : MS M w) (a0 : List Int) (k : Nat) (r : Int × Int) (H : addr_gap.f k a0 = some r) :
    To Tryz.prog 114 [.agg (cA .i64 8 a0).toArray] w fun v w' => v = .tuple #[.int .i64 r.1, .int .i64 r.2] ∧ Chg [] w w' ∧ MS (M) w' := by
 unfold addr_gap.f at H
 refine ent Tryz.func114 rfl [(0, .agg (cA .i64 8 a0).toArray)] rfl (by rfl) fun a ha => ?_
 have hC : Chg [] w w := Chg.refl _ _
 refine wp_seq_k fun K1 hK1 => ?_
 refine wp_region_lit ?_
 refine bx (cs := (cA .i64 8 a0)) ha rfl rfl rfl rfl rfl fun a w2 g3 hN4 ha => ?_
 have hn6 := hN4.notin hM
 have hM : MS (M) w2 := (hM.chg hN4.chg)
 have hC := hC.trans hN4.chg (Ok.nil _ _)
 have hE5 : ∀ j v, (cA .i64 8 a0)[j]? = some v → w2.cell? ⟨g3, 0 + j, none⟩ = some v := Box.cells (New.box hN4)
 refine seg ha 2 [(1, .pointer (some ⟨g3, 0, none⟩)), (2, .int .i64 (0 : Int)), (3, .int .i64 (0 : Int))] (by kernel_rfl) fun a ha => ?_
 refine hK1 _ _ ?_; try clear hK1 K1
 refine wp_seq_k fun K7 hK7 => ?_
 refine wp_seq_k fun K8 hK8 => ?_
 refine wp_region_lit ?_
 refine seg ha 1 [(1, .pointer (some ⟨g3, 0, none⟩)), (2, .int .i64 (0 : Int)), (3, .int .i64 (0 : Int)), (6, .int .i64 (0 : Int))] (by kernel_rfl) fun a ha => ?_
 refine hK8 _ _ ?_; try clear hK8 K8
 refine wp_block ?_
 obtain ⟨s9, H9, H⟩ := bind_some H
 have J9 : ∀ (a : Act) (wx9 : World), Has a Tryz.f114.ntmps [(2, .int .i64 s9.1), (3, .int .i64 s9.2)] → (Chg [] w wx9) → (MS (M) wx9) → K7 a wx9 := by
  intro a wx9 ha hC hM
  refine hK7 _ _ ?_; try clear hK7 K7
  refine wp_seq_k fun K13 hK13 => ?_
  refine wp_region_lit ?_
  refine seg ha 4 [(2, .int .i64 s9.1), (3, .int .i64 s9.2)] (by kernel_rfl) fun a ha => ?_
  refine hK13 _ _ ?_; try clear hK13 K13
  refine wp_ret ?_
  try simp only [Exit.then, Exit.inBlock]
  obtain rfl := Option.some.inj H
  refine rt2 ha rfl rfl rfl ?_
  exact ⟨rfl, hC, hM⟩
 have Hc9 := H
 have H := H9
 refine wp_loop_ghost (fun kk a w9 => ∃ (x10 : Int) (x11 : Int) (x12 : Int), addr_gap.l0 k a0 kk x10 x11 x12 = some s9 ∧ Has a Tryz.f114.ntmps [(1, .pointer (some ⟨g3, 0, none⟩)), (2, .int .i64 x10), (3, .int .i64 x11), (6, .int .i64 x12)] ∧ (∀ j v, (cA .i64 8 a0)[j]? = some v → w9.cell? ⟨g3, 0 + j, none⟩ = some v) ∧ (g3 ∉ (M)) ∧ (Chg [] w w9) ∧ (MS (M) w9)) k ?_ ?_
 ·skip
  exact ⟨(0 : Int), (0 : Int), (0 : Int), H, (ha.sel (by kernel_rfl)), hE5, hn6, hC, hM⟩
 ·rintro kk a w9 ⟨x10, x11, x12, H, ha, hE5, hn6, hC, hM⟩
  obtain _ | kk := kk
  ·exact nomatch (show none = some _ from H)
  rw [addr_gap.l0] at H
  refine wp_seq_k fun K14 hK14 => ?_
  refine wp_region_lit ?_
  refine seg ha 1 [(1, .pointer (some ⟨g3, 0, none⟩)), (2, .int .i64 x10), (3, .int .i64 x11), (6, .int .i64 x12), (7, .bool (decide (x12 < (8 : Int))))] (by kernel_rfl) fun a ha => ?_
  refine hK14 _ _ ?_; try clear hK14 K14
  refine wp_seq_k fun K15 hK15 => ?_
  refine cnd ha rfl (fun hc16 => ?_) (fun hc16 => ?_)
  ·have H := ite_t hc16 H
   refine wp_skip ?_
   refine hK15 _ _ ?_; try clear hK15 K15
   refine wp_seq_k fun K17 hK17 => ?_
   refine wp_block ?_
   refine wp_seq_k fun K18 hK18 => ?_
   refine wp_region_lit ?_
   refine seg ha 2 [(1, .pointer (some ⟨g3, 0, none⟩)), (2, .int .i64 x10), (3, .int .i64 x11), (4, .int .i64 x12), (6, .int .i64 x12)] (by kernel_rfl) fun a ha => ?_
   refine hK18 _ _ ?_; try clear hK18 K18
   refine wp_seq_k fun K19 hK19 => ?_
   refine wp_region_lit ?_
   refine seg ha 1 [(1, .pointer (some ⟨g3, 0, none⟩)), (2, .int .i64 x10), (3, .int .i64 x11), (4, .int .i64 x12), (5, .int .i64 (0 : Int)), (6, .int .i64 x12)] (by kernel_rfl) fun a ha => ?_
   refine hK19 _ _ ?_; try clear hK19 K19
   refine wp_seq_k fun K20 hK20 => ?_
   refine wp_block ?_
   obtain ⟨s21, H21, H⟩ := bind_some H
   have J21 : ∀ (a : Act) (wx21 : World), Has a Tryz.f114.ntmps [(1, .pointer (some ⟨g3, 0, none⟩)), (2, .int .i64 x10), (3, .int .i64 x11), (4, .int .i64 x12), (5, .int .i64 s21), (6, .int .i64 x12)] → (∀ j v, (cA .i64 8 a0)[j]? = some v → wx21.cell? ⟨g3, 0 + j, none⟩ = some v) → (g3 ∉ (M)) → (Chg [] w wx21) → (MS (M) wx21) → K20 a wx21 := by
    intro a wx21 ha hE5 hn6 hC hM
    refine hK20 _ _ ?_; try clear hK20 K20
    refine wp_seq_k fun K23 hK23 => ?_
    refine wp_region_lit ?_
    refine seg ha 3 [(1, .pointer (some ⟨g3, 0, none⟩)), (2, .int .i64 x10), (3, .int .i64 x11), (4, .int .i64 x12), (5, .int .i64 s21), (6, .int .i64 x12), (25, .bool (decide (s21 > x11)))] (by kernel_rfl) fun a ha => ?_
    refine hK23 _ _ ?_; try clear hK23 K23
    refine cnd ha rfl (fun hc24 => ?_) (fun hc24 => ?_)
    ·have H := ite_t hc24 H
     refine wp_region_lit ?_
     refine seg ha 4 [(1, .pointer (some ⟨g3, 0, none⟩)), (2, .int .i64 x12), (3, .int .i64 s21), (6, .int .i64 x12)] (by kernel_rfl) fun a ha => ?_
     refine hK17 _ _ ?_; try clear hK17 K17
     refine wp_region_lit ?_
     refine seg ha 2 [(1, .pointer (some ⟨g3, 0, none⟩)), (2, .int .i64 x12), (3, .int .i64 s21), (6, .int .i64 (IntKind.i64.wrap (x12 + (1 : Int))))] (by kernel_rfl) fun a ha => ?_
     exact ⟨kk, Nat.lt_succ_self _, ⟨x12, s21, IntKind.i64.wrap (x12 + (1 : Int)), H, (ha.sel (by kernel_rfl)), hE5, hn6, hC, hM⟩⟩
    ·have H := ite_f hc24 H
     refine wp_skip ?_
     refine hK17 _ _ ?_; try clear hK17 K17
     refine wp_region_lit ?_
     refine seg ha 2 [(1, .pointer (some ⟨g3, 0, none⟩)), (2, .int .i64 x10), (3, .int .i64 x11), (6, .int .i64 (IntKind.i64.wrap (x12 + (1 : Int))))] (by kernel_rfl) fun a ha => ?_
     exact ⟨kk, Nat.lt_succ_self _, ⟨x10, x11, IntKind.i64.wrap (x12 + (1 : Int)), H, (ha.sel (by kernel_rfl)), hE5, hn6, hC, hM⟩⟩
   have Hc21 := H
   have H := H21
   refine wp_loop_ghost (fun kk a w21 => ∃ (x22 : Int), addr_gap.l1 a0 x12 kk x22 = some s21 ∧ Has a Tryz.f114.ntmps [(1, .pointer (some ⟨g3, 0, none⟩)), (2, .int .i64 x10), (3, .int .i64 x11), (4, .int .i64 x12), (5, .int .i64 x22), (6, .int .i64 x12)] ∧ (∀ j v, (cA .i64 8 a0)[j]? = some v → w21.cell? ⟨g3, 0 + j, none⟩ = some v) ∧ (g3 ∉ (M)) ∧ (Chg [] w w21) ∧ (MS (M) w21)) k ?_ ?_
   ·skip
    exact ⟨(0 : Int), H, (ha.sel (by kernel_rfl)), hE5, hn6, hC, hM⟩
   ·rintro kk a w21 ⟨x22, H, ha, hE5, hn6, hC, hM⟩
    obtain _ | kk := kk
    ·exact nomatch (show none = some _ from H)
    rw [addr_gap.l1] at H
    refine wp_seq_k fun K25 hK25 => ?_
    refine wp_seq_k fun K26 hK26 => ?_
    refine wp_region_lit ?_
    obtain ⟨s27, H27, H⟩ := bind_some H
    have J27 : ∀ (a : Act) (w27 : World), Has a Tryz.f114.ntmps [(1, .pointer (some ⟨g3, 0, none⟩)), (2, .int .i64 x10), (3, .int .i64 x11), (4, .int .i64 x12), (5, .int .i64 x22), (6, .int .i64 x12), (20, .bool s27)] → (∀ j v, (cA .i64 8 a0)[j]? = some v → w27.cell? ⟨g3, 0 + j, none⟩ = some v) → (g3 ∉ (M)) → (Chg [] w w27) → (MS (M) w27) → K26 a w27 := by
     intro a w27 ha hE5 hn6 hC hM
     refine hK26 _ _ ?_; try clear hK26 K26
     refine cnd ha rfl (fun hc28 => ?_) (fun hc28 => ?_)
     ·have H := ite_t hc28 H
      refine wp_skip ?_
      refine hK25 _ _ ?_; try clear hK25 K25
      refine wp_block ?_
      refine wp_region_lit ?_
      refine seg ha 3 [(1, .pointer (some ⟨g3, 0, none⟩)), (2, .int .i64 x10), (3, .int .i64 x11), (4, .int .i64 x12), (5, .int .i64 (IntKind.i64.wrap (x22 + (1 : Int)))), (6, .int .i64 x12)] (by kernel_rfl) fun a ha => ?_
      exact ⟨kk, Nat.lt_succ_self _, ⟨IntKind.i64.wrap (x22 + (1 : Int)), H, (ha.sel (by kernel_rfl)), hE5, hn6, hC, hM⟩⟩
     ·have H := ite_f hc28 H
      refine wp_exit ?_
      simp only [Exit.then, Exit.inBlock, ↓reduceIte, Nat.reduceEqDiff]
      obtain rfl := Option.some.inj H
      exact J21 _ _ (ha.sel (by kernel_rfl)) hE5 hn6 hC hM
    have H := H27
    refine seg ha 5 [(13, .bool (decide ((IntKind.i64.wrap (x12 + x22)) < (8 : Int)))), (1, .pointer (some ⟨g3, 0, none⟩)), (2, .int .i64 x10), (3, .int .i64 x11), (4, .int .i64 x12), (5, .int .i64 x22), (6, .int .i64 x12)] (by kernel_rfl) fun a ha => ?_
    rcases Bool.eq_false_or_eq_true (decide ((IntKind.i64.wrap (x12 + x22)) < (8 : Int))) with hb29 | hb29
    ·have ha := ha.lit hb29
     have H := ite_t hb29 H
     refine sgh ha 3 [2, 2, 2] [(1, .pointer (some ⟨g3, 0, none⟩)), (2, .int .i64 x10), (3, .int .i64 x11), (4, .int .i64 x12), (5, .int .i64 x22), (6, .int .i64 x12), (13, .bool true), (16, .int .i64 (IntKind.i64.wrap (x12 + x22)))] (by kernel_rfl) fun a ha => ?_
     obtain ⟨⟨hx30, hx30'⟩, H⟩ := ite_some H
     have hE30 : ∀ j v, ([.int .i64 (ar a0 (Int.toNat (IntKind.i64.wrap (x12 + x22))))] : List Value)[j]? = some v → w21.cell? ⟨g3, (0 + 0 + (Int.toNat (IntKind.i64.wrap (x12 + x22)))) + j, none⟩ = some v := cellA (m := 8) [] [] hE5 (by kernel_rfl) (by omega)
     have hn30 := hn6
     refine hop (v := .pointer (some ⟨g3, (0 + 0 + (Int.toNat (IntKind.i64.wrap (x12 + x22)))), none⟩)) (w' := w21) ha rfl rfl rfl (ixA_run (T := 3) (N := 8) (g := g3) (o' := 0) (k := .i64) (i := IntKind.i64.wrap (x12 + x22)) ha (by kernel_rfl) (by kernel_rfl) (by rfl) (by rfl) hx30 hx30' _) fun a ha => ?_
     refine ld ha rfl (by kernel_rfl) rfl rfl rfl (hE30 0 (.int .i64 (ar a0 (Int.toNat (IntKind.i64.wrap (x12 + x22))))) (by kernel_rfl)) fun a ha => ?_
     refine sgh ha 2 [2, 3] [(1, .pointer (some ⟨g3, 0, none⟩)), (2, .int .i64 x10), (3, .int .i64 x11), (4, .int .i64 x12), (5, .int .i64 x22), (6, .int .i64 x12), (20, .bool ((ar a0 (Int.toNat (IntKind.i64.wrap (x12 + x22)))) == (0 : Int)))] (by kernel_rfl) fun a ha => ?_
     obtain rfl := Option.some.inj H
     exact J27 _ _ (ha.sel (by kernel_rfl)) hE5 hn6 hC hM
    ·have ha := ha.lit hb29
     have H := ite_f hb29 H
     refine sgh ha 7 [1, 1, 1, 1, 1, 1, 4] [(1, .pointer (some ⟨g3, 0, none⟩)), (2, .int .i64 x10), (3, .int .i64 x11), (4, .int .i64 x12), (5, .int .i64 x22), (6, .int .i64 x12), (20, .bool false)] (by kernel_rfl) fun a ha => ?_
     obtain rfl := Option.some.inj H
     exact J27 _ _ (ha.sel (by kernel_rfl)) hE5 hn6 hC hM
  ·have H := ite_f hc16 H
   refine wp_exit ?_
   simp only [Exit.then, Exit.inBlock, ↓reduceIte, Nat.reduceEqDiff]
   obtain rfl := Option.some.inj H
   exact J9 _ _ (ha.sel (by kernel_rfl)) hC hM
def strconv_small.f (a0 : Int) : Option (List UInt8) := (if (decide (a0 < (10 : Int))) = true then (if 0 ≤ a0 ∧ a0 ≤ (IntKind.i64.wrap (a0 + (1 : Int))) ∧ (IntKind.i64.wrap (a0 + (1 : Int))) ≤ (([48, 49, 50, 51, 52, 53, 54, 55, 56, 57, 97, 98, 99, 100, 101, 102, 103, 104, 105, 106, 107, 108, 109, 110, 111, 112, 113, 114, 115, 116, 117, 118, 119, 120, 121, 122] : List UInt8).length : Int) then some ((((([48, 49, 50, 51, 52, 53, 54, 55, 56, 57, 97, 98, 99, 100, 101, 102, 103, 104, 105, 106, 107, 108, 109, 110, 111, 112, 113, 114, 115, 116, 117, 118, 119, 120, 121, 122] : List UInt8).take (Int.toNat (IntKind.i64.wrap (a0 + (1 : Int))))).drop (Int.toNat a0)) : List UInt8)) else none) else (if 0 ≤ (IntKind.i64.wrap (a0 * (2 : Int))) ∧ (IntKind.i64.wrap (a0 * (2 : Int))) ≤ (IntKind.i64.wrap ((IntKind.i64.wrap (a0 * (2 : Int))) + (2 : Int))) ∧ (IntKind.i64.wrap ((IntKind.i64.wrap (a0 * (2 : Int))) + (2 : Int))) ≤ (([48, 48, 48, 49, 48, 50, 48, 51, 48, 52, 48, 53, 48, 54, 48, 55, 48, 56, 48, 57, 49, 48, 49, 49, 49, 50, 49, 51, 49, 52, 49, 53, 49, 54, 49, 55, 49, 56, 49, 57, 50, 48, 50, 49, 50, 50, 50, 51, 50, 52, 50, 53, 50, 54, 50, 55, 50, 56, 50, 57, 51, 48, 51, 49, 51, 50, 51, 51, 51, 52, 51, 53, 51, 54, 51, 55, 51, 56, 51, 57, 52, 48, 52, 49, 52, 50, 52, 51, 52, 52, 52, 53, 52, 54, 52, 55, 52, 56, 52, 57, 53, 48, 53, 49, 53, 50, 53, 51, 53, 52, 53, 53, 53, 54, 53, 55, 53, 56, 53, 57, 54, 48, 54, 49, 54, 50, 54, 51, 54, 52, 54, 53, 54, 54, 54, 55, 54, 56, 54, 57, 55, 48, 55, 49, 55, 50, 55, 51, 55, 52, 55, 53, 55, 54, 55, 55, 55, 56, 55, 57, 56, 48, 56, 49, 56, 50, 56, 51, 56, 52, 56, 53, 56, 54, 56, 55, 56, 56, 56, 57, 57, 48, 57, 49, 57, 50, 57, 51, 57, 52, 57, 53, 57, 54, 57, 55, 57, 56, 57, 57] : List UInt8).length : Int) then some ((((([48, 48, 48, 49, 48, 50, 48, 51, 48, 52, 48, 53, 48, 54, 48, 55, 48, 56, 48, 57, 49, 48, 49, 49, 49, 50, 49, 51, 49, 52, 49, 53, 49, 54, 49, 55, 49, 56, 49, 57, 50, 48, 50, 49, 50, 50, 50, 51, 50, 52, 50, 53, 50, 54, 50, 55, 50, 56, 50, 57, 51, 48, 51, 49, 51, 50, 51, 51, 51, 52, 51, 53, 51, 54, 51, 55, 51, 56, 51, 57, 52, 48, 52, 49, 52, 50, 52, 51, 52, 52, 52, 53, 52, 54, 52, 55, 52, 56, 52, 57, 53, 48, 53, 49, 53, 50, 53, 51, 53, 52, 53, 53, 53, 54, 53, 55, 53, 56, 53, 57, 54, 48, 54, 49, 54, 50, 54, 51, 54, 52, 54, 53, 54, 54, 54, 55, 54, 56, 54, 57, 55, 48, 55, 49, 55, 50, 55, 51, 55, 52, 55, 53, 55, 54, 55, 55, 55, 56, 55, 57, 56, 48, 56, 49, 56, 50, 56, 51, 56, 52, 56, 53, 56, 54, 56, 55, 56, 56, 56, 57, 57, 48, 57, 49, 57, 50, 57, 51, 57, 52, 57, 53, 57, 54, 57, 55, 57, 56, 57, 57] : List UInt8).take (Int.toNat (IntKind.i64.wrap ((IntKind.i64.wrap (a0 * (2 : Int))) + (2 : Int))))).drop (Int.toNat (IntKind.i64.wrap (a0 * (2 : Int))))) : List UInt8)) else none))
set_option maxRecDepth 100000 in
theorem strconv_small.walk (w : World) (M : List Nat) (hM : MS M w) (a0 : Int) (r : List UInt8) (H : strconv_small.f a0 = some r) :
    To Tryz.prog 146 [.int .i64 a0] w fun v w' => v = .string (bstr r) ∧ Chg [] w w' ∧ MS (M) w' := by
 unfold strconv_small.f at H
 refine ent Tryz.func146 rfl [(0, .int .i64 a0)] rfl (by rfl) fun a ha => ?_
 have hC : Chg [] w w := Chg.refl _ _
 refine wp_seq_k fun K1 hK1 => ?_
 refine wp_region_lit ?_
 refine seg ha 1 [(0, .int .i64 a0)] (by kernel_rfl) fun a ha => ?_
 refine hK1 _ _ ?_; try clear hK1 K1
 refine wp_seq_k fun K2 hK2 => ?_
 refine wp_seq_k fun K3 hK3 => ?_
 refine wp_region_lit ?_
 refine seg ha 2 [(0, .int .i64 a0), (4, .bool (decide (a0 < (10 : Int))))] (by kernel_rfl) fun a ha => ?_
 refine hK3 _ _ ?_; try clear hK3 K3
 refine cnd ha rfl (fun hc4 => ?_) (fun hc4 => ?_)
 ·have H := ite_t hc4 H
  refine wp_seq_k fun K5 hK5 => ?_
  refine wp_region_lit ?_
  refine seg ha 3 [(5, .int .i64 a0), (7, .int .i64 (IntKind.i64.wrap (a0 + (1 : Int))))] (by kernel_rfl) fun a ha => ?_
  obtain ⟨⟨hx6, hx6', hx6''⟩, H⟩ := ite_some H
  refine hop (v := .string (bstr ((([48, 49, 50, 51, 52, 53, 54, 55, 56, 57, 97, 98, 99, 100, 101, 102, 103, 104, 105, 106, 107, 108, 109, 110, 111, 112, 113, 114, 115, 116, 117, 118, 119, 120, 121, 122] : List UInt8).take (Int.toNat (IntKind.i64.wrap (a0 + (1 : Int))))).drop (Int.toNat a0)))) (w' := w) ha rfl rfl rfl (ssl_run (s := ([48, 49, 50, 51, 52, 53, 54, 55, 56, 57, 97, 98, 99, 100, 101, 102, 103, 104, 105, 106, 107, 108, 109, 110, 111, 112, 113, 114, 115, 116, 117, 118, 119, 120, 121, 122] : List UInt8)) (l := a0) (h := (IntKind.i64.wrap (a0 + (1 : Int)))) ha (by kernel_rfl) (by rfl) (by rfl) (by rfl) hx6 hx6' hx6'' _) fun a ha => ?_
  refine seg ha 1 [(2, .string (bstr ((([48, 49, 50, 51, 52, 53, 54, 55, 56, 57, 97, 98, 99, 100, 101, 102, 103, 104, 105, 106, 107, 108, 109, 110, 111, 112, 113, 114, 115, 116, 117, 118, 119, 120, 121, 122] : List UInt8).take (Int.toNat (IntKind.i64.wrap (a0 + (1 : Int))))).drop (Int.toNat a0))))] (by kernel_rfl) fun a ha => ?_
  refine hK5 _ _ ?_; try clear hK5 K5
  refine wp_ret ?_
  try simp only [Exit.then, Exit.inBlock]
  obtain rfl := Option.some.inj H
  refine rt1 ha rfl rfl ?_
  exact ⟨rfl, hC, hM⟩
 ·have H := ite_f hc4 H
  refine wp_skip ?_
  refine hK2 _ _ ?_; try clear hK2 K2
  refine wp_seq_k fun K7 hK7 => ?_
  refine wp_region_lit ?_
  refine seg ha 5 [(10, .int .i64 (IntKind.i64.wrap (a0 * (2 : Int)))), (13, .int .i64 (IntKind.i64.wrap ((IntKind.i64.wrap (a0 * (2 : Int))) + (2 : Int))))] (by kernel_rfl) fun a ha => ?_
  obtain ⟨⟨hx8, hx8', hx8''⟩, H⟩ := ite_some H
  refine hop (v := .string (bstr ((([48, 48, 48, 49, 48, 50, 48, 51, 48, 52, 48, 53, 48, 54, 48, 55, 48, 56, 48, 57, 49, 48, 49, 49, 49, 50, 49, 51, 49, 52, 49, 53, 49, 54, 49, 55, 49, 56, 49, 57, 50, 48, 50, 49, 50, 50, 50, 51, 50, 52, 50, 53, 50, 54, 50, 55, 50, 56, 50, 57, 51, 48, 51, 49, 51, 50, 51, 51, 51, 52, 51, 53, 51, 54, 51, 55, 51, 56, 51, 57, 52, 48, 52, 49, 52, 50, 52, 51, 52, 52, 52, 53, 52, 54, 52, 55, 52, 56, 52, 57, 53, 48, 53, 49, 53, 50, 53, 51, 53, 52, 53, 53, 53, 54, 53, 55, 53, 56, 53, 57, 54, 48, 54, 49, 54, 50, 54, 51, 54, 52, 54, 53, 54, 54, 54, 55, 54, 56, 54, 57, 55, 48, 55, 49, 55, 50, 55, 51, 55, 52, 55, 53, 55, 54, 55, 55, 55, 56, 55, 57, 56, 48, 56, 49, 56, 50, 56, 51, 56, 52, 56, 53, 56, 54, 56, 55, 56, 56, 56, 57, 57, 48, 57, 49, 57, 50, 57, 51, 57, 52, 57, 53, 57, 54, 57, 55, 57, 56, 57, 57] : List UInt8).take (Int.toNat (IntKind.i64.wrap ((IntKind.i64.wrap (a0 * (2 : Int))) + (2 : Int))))).drop (Int.toNat (IntKind.i64.wrap (a0 * (2 : Int))))))) (w' := w) ha rfl rfl rfl (ssl_run (s := ([48, 48, 48, 49, 48, 50, 48, 51, 48, 52, 48, 53, 48, 54, 48, 55, 48, 56, 48, 57, 49, 48, 49, 49, 49, 50, 49, 51, 49, 52, 49, 53, 49, 54, 49, 55, 49, 56, 49, 57, 50, 48, 50, 49, 50, 50, 50, 51, 50, 52, 50, 53, 50, 54, 50, 55, 50, 56, 50, 57, 51, 48, 51, 49, 51, 50, 51, 51, 51, 52, 51, 53, 51, 54, 51, 55, 51, 56, 51, 57, 52, 48, 52, 49, 52, 50, 52, 51, 52, 52, 52, 53, 52, 54, 52, 55, 52, 56, 52, 57, 53, 48, 53, 49, 53, 50, 53, 51, 53, 52, 53, 53, 53, 54, 53, 55, 53, 56, 53, 57, 54, 48, 54, 49, 54, 50, 54, 51, 54, 52, 54, 53, 54, 54, 54, 55, 54, 56, 54, 57, 55, 48, 55, 49, 55, 50, 55, 51, 55, 52, 55, 53, 55, 54, 55, 55, 55, 56, 55, 57, 56, 48, 56, 49, 56, 50, 56, 51, 56, 52, 56, 53, 56, 54, 56, 55, 56, 56, 56, 57, 57, 48, 57, 49, 57, 50, 57, 51, 57, 52, 57, 53, 57, 54, 57, 55, 57, 56, 57, 57] : List UInt8)) (l := (IntKind.i64.wrap (a0 * (2 : Int)))) (h := (IntKind.i64.wrap ((IntKind.i64.wrap (a0 * (2 : Int))) + (2 : Int)))) ha (by kernel_rfl) (by rfl) (by rfl) (by rfl) hx8 hx8' hx8'' _) fun a ha => ?_
  refine seg ha 1 [(2, .string (bstr ((([48, 48, 48, 49, 48, 50, 48, 51, 48, 52, 48, 53, 48, 54, 48, 55, 48, 56, 48, 57, 49, 48, 49, 49, 49, 50, 49, 51, 49, 52, 49, 53, 49, 54, 49, 55, 49, 56, 49, 57, 50, 48, 50, 49, 50, 50, 50, 51, 50, 52, 50, 53, 50, 54, 50, 55, 50, 56, 50, 57, 51, 48, 51, 49, 51, 50, 51, 51, 51, 52, 51, 53, 51, 54, 51, 55, 51, 56, 51, 57, 52, 48, 52, 49, 52, 50, 52, 51, 52, 52, 52, 53, 52, 54, 52, 55, 52, 56, 52, 57, 53, 48, 53, 49, 53, 50, 53, 51, 53, 52, 53, 53, 53, 54, 53, 55, 53, 56, 53, 57, 54, 48, 54, 49, 54, 50, 54, 51, 54, 52, 54, 53, 54, 54, 54, 55, 54, 56, 54, 57, 55, 48, 55, 49, 55, 50, 55, 51, 55, 52, 55, 53, 55, 54, 55, 55, 55, 56, 55, 57, 56, 48, 56, 49, 56, 50, 56, 51, 56, 52, 56, 53, 56, 54, 56, 55, 56, 56, 56, 57, 57, 48, 57, 49, 57, 50, 57, 51, 57, 52, 57, 53, 57, 54, 57, 55, 57, 56, 57, 57] : List UInt8).take (Int.toNat (IntKind.i64.wrap ((IntKind.i64.wrap (a0 * (2 : Int))) + (2 : Int))))).drop (Int.toNat (IntKind.i64.wrap (a0 * (2 : Int)))))))] (by kernel_rfl) fun a ha => ?_
  refine hK7 _ _ ?_; try clear hK7 K7
  refine wp_ret ?_
  try simp only [Exit.then, Exit.inBlock]
  obtain rfl := Option.some.inj H
  refine rt1 ha rfl rfl ?_
  exact ⟨rfl, hC, hM⟩
def bits_Len64.f (a0 : Int) : Option (Int) := ((if (decide (a0 ≥ (4294967296 : Int))) = true then some ((Int.fdiv a0 (2 ^ (min (32 : Int).toNat IntKind.u64.bits)) : Int), ((32 : Int) : Int)) else some ((a0 : Int), ((0 : Int) : Int)))).bind fun s3 => ((if (decide (s3.1 ≥ (65536 : Int))) = true then some ((Int.fdiv s3.1 (2 ^ (min (16 : Int).toNat IntKind.u64.bits)) : Int), (IntKind.i64.wrap (s3.2 + (16 : Int)) : Int)) else some ((s3.1 : Int), (s3.2 : Int)))).bind fun s5 => ((if (decide (s5.1 ≥ (256 : Int))) = true then some ((Int.fdiv s5.1 (2 ^ (min (8 : Int).toNat IntKind.u64.bits)) : Int), (IntKind.i64.wrap (s5.2 + (8 : Int)) : Int)) else some ((s5.1 : Int), (s5.2 : Int)))).bind fun s7 => (if 0 ≤ (IntKind.u8.wrap s7.1) ∧ (IntKind.u8.wrap s7.1) < (([0, 1, 2, 2, 3, 3, 3, 3, 4, 4, 4, 4, 4, 4, 4, 4, 5, 5, 5, 5, 5, 5, 5, 5, 5, 5, 5, 5, 5, 5, 5, 5, 6, 6, 6, 6, 6, 6, 6, 6, 6, 6, 6, 6, 6, 6, 6, 6, 6, 6, 6, 6, 6, 6, 6, 6, 6, 6, 6, 6, 6, 6, 6, 6, 7, 7, 7, 7, 7, 7, 7, 7, 7, 7, 7, 7, 7, 7, 7, 7, 7, 7, 7, 7, 7, 7, 7, 7, 7, 7, 7, 7, 7, 7, 7, 7, 7, 7, 7, 7, 7, 7, 7, 7, 7, 7, 7, 7, 7, 7, 7, 7, 7, 7, 7, 7, 7, 7, 7, 7, 7, 7, 7, 7, 7, 7, 7, 7, 8, 8, 8, 8, 8, 8, 8, 8, 8, 8, 8, 8, 8, 8, 8, 8, 8, 8, 8, 8, 8, 8, 8, 8, 8, 8, 8, 8, 8, 8, 8, 8, 8, 8, 8, 8, 8, 8, 8, 8, 8, 8, 8, 8, 8, 8, 8, 8, 8, 8, 8, 8, 8, 8, 8, 8, 8, 8, 8, 8, 8, 8, 8, 8, 8, 8, 8, 8, 8, 8, 8, 8, 8, 8, 8, 8, 8, 8, 8, 8, 8, 8, 8, 8, 8, 8, 8, 8, 8, 8, 8, 8, 8, 8, 8, 8, 8, 8, 8, 8, 8, 8, 8, 8, 8, 8, 8, 8, 8, 8, 8, 8, 8, 8, 8, 8, 8, 8, 8, 8, 8, 8, 8, 8, 8, 8, 8, 8] : List UInt8).length : Int) then some ((IntKind.i64.wrap (s7.2 + (IntKind.i64.wrap ((([0, 1, 2, 2, 3, 3, 3, 3, 4, 4, 4, 4, 4, 4, 4, 4, 5, 5, 5, 5, 5, 5, 5, 5, 5, 5, 5, 5, 5, 5, 5, 5, 6, 6, 6, 6, 6, 6, 6, 6, 6, 6, 6, 6, 6, 6, 6, 6, 6, 6, 6, 6, 6, 6, 6, 6, 6, 6, 6, 6, 6, 6, 6, 6, 7, 7, 7, 7, 7, 7, 7, 7, 7, 7, 7, 7, 7, 7, 7, 7, 7, 7, 7, 7, 7, 7, 7, 7, 7, 7, 7, 7, 7, 7, 7, 7, 7, 7, 7, 7, 7, 7, 7, 7, 7, 7, 7, 7, 7, 7, 7, 7, 7, 7, 7, 7, 7, 7, 7, 7, 7, 7, 7, 7, 7, 7, 7, 7, 8, 8, 8, 8, 8, 8, 8, 8, 8, 8, 8, 8, 8, 8, 8, 8, 8, 8, 8, 8, 8, 8, 8, 8, 8, 8, 8, 8, 8, 8, 8, 8, 8, 8, 8, 8, 8, 8, 8, 8, 8, 8, 8, 8, 8, 8, 8, 8, 8, 8, 8, 8, 8, 8, 8, 8, 8, 8, 8, 8, 8, 8, 8, 8, 8, 8, 8, 8, 8, 8, 8, 8, 8, 8, 8, 8, 8, 8, 8, 8, 8, 8, 8, 8, 8, 8, 8, 8, 8, 8, 8, 8, 8, 8, 8, 8, 8, 8, 8, 8, 8, 8, 8, 8, 8, 8, 8, 8, 8, 8, 8, 8, 8, 8, 8, 8, 8, 8, 8, 8, 8, 8, 8, 8, 8, 8, 8, 8] : List UInt8).getD (Int.toNat (IntKind.u8.wrap s7.1)) 0).toNat : Int))) : Int)) else none)
set_option maxRecDepth 100000 in
theorem bits_Len64.walk (w : World) (M : List Nat) (hM : MS M w) (a0 : Int) (r : Int) (H : bits_Len64.f a0 = some r) :
    To Tryz.prog 162 [.int .u64 a0] w fun v w' => v = .int .i64 r ∧ Chg [] w w' ∧ MS (M) w' := by
 unfold bits_Len64.f at H
 refine ent Tryz.func162 rfl [(0, .int .u64 a0)] rfl (by rfl) fun a ha => ?_
 have hC : Chg [] w w := Chg.refl _ _
 refine wp_seq_k fun K1 hK1 => ?_
 refine wp_region_lit ?_
 refine seg ha 1 [(0, .int .u64 a0), (2, .int .i64 (0 : Int))] (by kernel_rfl) fun a ha => ?_
 refine hK1 _ _ ?_; try clear hK1 K1
 refine wp_seq_k fun K2 hK2 => ?_
 obtain ⟨s3, H3, H⟩ := bind_some H
 have J3 : ∀ (a : Act) (w3 : World), Has a Tryz.f162.ntmps [(0, .int .u64 s3.1), (2, .int .i64 s3.2)] → (Chg [] w w3) → (MS (M) w3) → K2 a w3 := by
  intro a w3 ha hC hM
  refine hK2 _ _ ?_; try clear hK2 K2
  refine wp_seq_k fun K4 hK4 => ?_
  obtain ⟨s5, H5, H⟩ := bind_some H
  have J5 : ∀ (a : Act) (w5 : World), Has a Tryz.f162.ntmps [(0, .int .u64 s5.1), (2, .int .i64 s5.2)] → (Chg [] w w5) → (MS (M) w5) → K4 a w5 := by
   intro a w5 ha hC hM
   refine hK4 _ _ ?_; try clear hK4 K4
   refine wp_seq_k fun K6 hK6 => ?_
   obtain ⟨s7, H7, H⟩ := bind_some H
   have J7 : ∀ (a : Act) (w7 : World), Has a Tryz.f162.ntmps [(0, .int .u64 s7.1), (2, .int .i64 s7.2)] → (Chg [] w w7) → (MS (M) w7) → K6 a w7 := by
    intro a w7 ha hC hM
    refine hK6 _ _ ?_; try clear hK6 K6
    refine wp_seq_k fun K8 hK8 => ?_
    refine wp_region_lit ?_
    refine seg ha 3 [(19, .int .i64 s7.2), (21, .int .u8 (IntKind.u8.wrap s7.1))] (by kernel_rfl) fun a ha => ?_
    obtain ⟨⟨hx9, hx9'⟩, H⟩ := ite_some H
    refine hop (v := .int .u8 ((([0, 1, 2, 2, 3, 3, 3, 3, 4, 4, 4, 4, 4, 4, 4, 4, 5, 5, 5, 5, 5, 5, 5, 5, 5, 5, 5, 5, 5, 5, 5, 5, 6, 6, 6, 6, 6, 6, 6, 6, 6, 6, 6, 6, 6, 6, 6, 6, 6, 6, 6, 6, 6, 6, 6, 6, 6, 6, 6, 6, 6, 6, 6, 6, 7, 7, 7, 7, 7, 7, 7, 7, 7, 7, 7, 7, 7, 7, 7, 7, 7, 7, 7, 7, 7, 7, 7, 7, 7, 7, 7, 7, 7, 7, 7, 7, 7, 7, 7, 7, 7, 7, 7, 7, 7, 7, 7, 7, 7, 7, 7, 7, 7, 7, 7, 7, 7, 7, 7, 7, 7, 7, 7, 7, 7, 7, 7, 7, 8, 8, 8, 8, 8, 8, 8, 8, 8, 8, 8, 8, 8, 8, 8, 8, 8, 8, 8, 8, 8, 8, 8, 8, 8, 8, 8, 8, 8, 8, 8, 8, 8, 8, 8, 8, 8, 8, 8, 8, 8, 8, 8, 8, 8, 8, 8, 8, 8, 8, 8, 8, 8, 8, 8, 8, 8, 8, 8, 8, 8, 8, 8, 8, 8, 8, 8, 8, 8, 8, 8, 8, 8, 8, 8, 8, 8, 8, 8, 8, 8, 8, 8, 8, 8, 8, 8, 8, 8, 8, 8, 8, 8, 8, 8, 8, 8, 8, 8, 8, 8, 8, 8, 8, 8, 8, 8, 8, 8, 8, 8, 8, 8, 8, 8, 8, 8, 8, 8, 8, 8, 8, 8, 8, 8, 8, 8, 8] : List UInt8).getD (Int.toNat (IntKind.u8.wrap s7.1)) 0).toNat : Int)) (w' := w7) ha rfl rfl rfl (sidx_run (l := ([0, 1, 2, 2, 3, 3, 3, 3, 4, 4, 4, 4, 4, 4, 4, 4, 5, 5, 5, 5, 5, 5, 5, 5, 5, 5, 5, 5, 5, 5, 5, 5, 6, 6, 6, 6, 6, 6, 6, 6, 6, 6, 6, 6, 6, 6, 6, 6, 6, 6, 6, 6, 6, 6, 6, 6, 6, 6, 6, 6, 6, 6, 6, 6, 7, 7, 7, 7, 7, 7, 7, 7, 7, 7, 7, 7, 7, 7, 7, 7, 7, 7, 7, 7, 7, 7, 7, 7, 7, 7, 7, 7, 7, 7, 7, 7, 7, 7, 7, 7, 7, 7, 7, 7, 7, 7, 7, 7, 7, 7, 7, 7, 7, 7, 7, 7, 7, 7, 7, 7, 7, 7, 7, 7, 7, 7, 7, 7, 8, 8, 8, 8, 8, 8, 8, 8, 8, 8, 8, 8, 8, 8, 8, 8, 8, 8, 8, 8, 8, 8, 8, 8, 8, 8, 8, 8, 8, 8, 8, 8, 8, 8, 8, 8, 8, 8, 8, 8, 8, 8, 8, 8, 8, 8, 8, 8, 8, 8, 8, 8, 8, 8, 8, 8, 8, 8, 8, 8, 8, 8, 8, 8, 8, 8, 8, 8, 8, 8, 8, 8, 8, 8, 8, 8, 8, 8, 8, 8, 8, 8, 8, 8, 8, 8, 8, 8, 8, 8, 8, 8, 8, 8, 8, 8, 8, 8, 8, 8, 8, 8, 8, 8, 8, 8, 8, 8, 8, 8, 8, 8, 8, 8, 8, 8, 8, 8, 8, 8, 8, 8, 8, 8, 8, 8, 8, 8] : List UInt8)) (k := .u8) (i := IntKind.u8.wrap s7.1) ha (by kernel_rfl) (by rfl) (by rfl) hx9 hx9' _) fun a ha => ?_
    refine seg ha 3 [(2, .int .i64 (IntKind.i64.wrap (s7.2 + (IntKind.i64.wrap ((([0, 1, 2, 2, 3, 3, 3, 3, 4, 4, 4, 4, 4, 4, 4, 4, 5, 5, 5, 5, 5, 5, 5, 5, 5, 5, 5, 5, 5, 5, 5, 5, 6, 6, 6, 6, 6, 6, 6, 6, 6, 6, 6, 6, 6, 6, 6, 6, 6, 6, 6, 6, 6, 6, 6, 6, 6, 6, 6, 6, 6, 6, 6, 6, 7, 7, 7, 7, 7, 7, 7, 7, 7, 7, 7, 7, 7, 7, 7, 7, 7, 7, 7, 7, 7, 7, 7, 7, 7, 7, 7, 7, 7, 7, 7, 7, 7, 7, 7, 7, 7, 7, 7, 7, 7, 7, 7, 7, 7, 7, 7, 7, 7, 7, 7, 7, 7, 7, 7, 7, 7, 7, 7, 7, 7, 7, 7, 7, 8, 8, 8, 8, 8, 8, 8, 8, 8, 8, 8, 8, 8, 8, 8, 8, 8, 8, 8, 8, 8, 8, 8, 8, 8, 8, 8, 8, 8, 8, 8, 8, 8, 8, 8, 8, 8, 8, 8, 8, 8, 8, 8, 8, 8, 8, 8, 8, 8, 8, 8, 8, 8, 8, 8, 8, 8, 8, 8, 8, 8, 8, 8, 8, 8, 8, 8, 8, 8, 8, 8, 8, 8, 8, 8, 8, 8, 8, 8, 8, 8, 8, 8, 8, 8, 8, 8, 8, 8, 8, 8, 8, 8, 8, 8, 8, 8, 8, 8, 8, 8, 8, 8, 8, 8, 8, 8, 8, 8, 8, 8, 8, 8, 8, 8, 8, 8, 8, 8, 8, 8, 8, 8, 8, 8, 8, 8, 8] : List UInt8).getD (Int.toNat (IntKind.u8.wrap s7.1)) 0).toNat : Int)))))] (by kernel_rfl) fun a ha => ?_
    refine hK8 _ _ ?_; try clear hK8 K8
    refine wp_ret ?_
    try simp only [Exit.then, Exit.inBlock]
    obtain rfl := Option.some.inj H
    refine rt1 ha rfl rfl ?_
    exact ⟨rfl, hC, hM⟩
   have H := H7
   refine wp_seq_k fun K10 hK10 => ?_
   refine wp_region_lit ?_
   refine seg ha 2 [(0, .int .u64 s5.1), (2, .int .i64 s5.2), (14, .bool (decide (s5.1 ≥ (256 : Int))))] (by kernel_rfl) fun a ha => ?_
   refine hK10 _ _ ?_; try clear hK10 K10
   refine cnd ha rfl (fun hc11 => ?_) (fun hc11 => ?_)
   ·have H := ite_t hc11 H
    refine wp_seq_k fun K12 hK12 => ?_
    refine wp_region_lit ?_
    refine seg ha 3 [(0, .int .u64 (Int.fdiv s5.1 (2 ^ (min (8 : Int).toNat IntKind.u64.bits)))), (2, .int .i64 s5.2)] (by kernel_rfl) fun a ha => ?_
    refine hK12 _ _ ?_; try clear hK12 K12
    refine wp_region_lit ?_
    refine seg ha 3 [(0, .int .u64 (Int.fdiv s5.1 (2 ^ (min (8 : Int).toNat IntKind.u64.bits)))), (2, .int .i64 (IntKind.i64.wrap (s5.2 + (8 : Int))))] (by kernel_rfl) fun a ha => ?_
    obtain rfl := Option.some.inj H
    exact J7 _ _ (ha.sel (by kernel_rfl)) hC hM
   ·have H := ite_f hc11 H
    refine wp_skip ?_
    obtain rfl := Option.some.inj H
    exact J7 _ _ (ha.sel (by kernel_rfl)) hC hM
  have H := H5
  refine wp_seq_k fun K13 hK13 => ?_
  refine wp_region_lit ?_
  refine seg ha 2 [(0, .int .u64 s3.1), (2, .int .i64 s3.2), (8, .bool (decide (s3.1 ≥ (65536 : Int))))] (by kernel_rfl) fun a ha => ?_
  refine hK13 _ _ ?_; try clear hK13 K13
  refine cnd ha rfl (fun hc14 => ?_) (fun hc14 => ?_)
  ·have H := ite_t hc14 H
   refine wp_seq_k fun K15 hK15 => ?_
   refine wp_region_lit ?_
   refine seg ha 3 [(0, .int .u64 (Int.fdiv s3.1 (2 ^ (min (16 : Int).toNat IntKind.u64.bits)))), (2, .int .i64 s3.2)] (by kernel_rfl) fun a ha => ?_
   refine hK15 _ _ ?_; try clear hK15 K15
   refine wp_region_lit ?_
   refine seg ha 3 [(0, .int .u64 (Int.fdiv s3.1 (2 ^ (min (16 : Int).toNat IntKind.u64.bits)))), (2, .int .i64 (IntKind.i64.wrap (s3.2 + (16 : Int))))] (by kernel_rfl) fun a ha => ?_
   obtain rfl := Option.some.inj H
   exact J5 _ _ (ha.sel (by kernel_rfl)) hC hM
  ·have H := ite_f hc14 H
   refine wp_skip ?_
   obtain rfl := Option.some.inj H
   exact J5 _ _ (ha.sel (by kernel_rfl)) hC hM
 have H := H3
 refine wp_seq_k fun K16 hK16 => ?_
 refine wp_region_lit ?_
 refine seg ha 2 [(0, .int .u64 a0), (2, .int .i64 (0 : Int)), (4, .bool (decide (a0 ≥ (4294967296 : Int))))] (by kernel_rfl) fun a ha => ?_
 refine hK16 _ _ ?_; try clear hK16 K16
 refine cnd ha rfl (fun hc17 => ?_) (fun hc17 => ?_)
 ·have H := ite_t hc17 H
  refine wp_seq_k fun K18 hK18 => ?_
  refine wp_region_lit ?_
  refine seg ha 3 [(0, .int .u64 (Int.fdiv a0 (2 ^ (min (32 : Int).toNat IntKind.u64.bits))))] (by kernel_rfl) fun a ha => ?_
  refine hK18 _ _ ?_; try clear hK18 K18
  refine wp_region_lit ?_
  refine seg ha 1 [(0, .int .u64 (Int.fdiv a0 (2 ^ (min (32 : Int).toNat IntKind.u64.bits)))), (2, .int .i64 (32 : Int))] (by kernel_rfl) fun a ha => ?_
  obtain rfl := Option.some.inj H
  exact J3 _ _ (ha.sel (by kernel_rfl)) hC hM
 ·have H := ite_f hc17 H
  refine wp_skip ?_
  obtain rfl := Option.some.inj H
  exact J3 _ _ (ha.sel (by kernel_rfl)) hC hM
def strconv_log10Pow2.f (a0 : Int) : Option (Int) := some ((Int.fdiv (IntKind.i64.wrap (a0 * (78913 : Int))) (2 ^ (min (18 : Int).toNat IntKind.i64.bits)) : Int))
set_option maxRecDepth 100000 in
theorem strconv_log10Pow2.walk (w : World) (M : List Nat) (hM : MS M w) (a0 : Int) (r : Int) (H : strconv_log10Pow2.f a0 = some r) :
    To Tryz.prog 187 [.int .i64 a0] w fun v w' => v = .int .i64 r ∧ Chg [] w w' ∧ MS (M) w' := by
 unfold strconv_log10Pow2.f at H
 refine ent Tryz.func187 rfl [(0, .int .i64 a0)] rfl (by rfl) fun a ha => ?_
 have hC : Chg [] w w := Chg.refl _ _
 refine wp_seq_k fun K1 hK1 => ?_
 refine wp_region_lit ?_
 refine seg ha 1 [(0, .int .i64 a0)] (by kernel_rfl) fun a ha => ?_
 refine hK1 _ _ ?_; try clear hK1 K1
 refine wp_seq_k fun K2 hK2 => ?_
 refine wp_region_lit ?_
 refine seg ha 4 [(2, .int .i64 (Int.fdiv (IntKind.i64.wrap (a0 * (78913 : Int))) (2 ^ (min (18 : Int).toNat IntKind.i64.bits))))] (by kernel_rfl) fun a ha => ?_
 refine hK2 _ _ ?_; try clear hK2 K2
 refine wp_ret ?_
 try simp only [Exit.then, Exit.inBlock]
 obtain rfl := Option.some.inj H
 refine rt1 ha rfl rfl ?_
 exact ⟨rfl, hC, hM⟩
def strconv_bool2_int.f (a0 : Bool) : Option (Int) := (if a0 = true then some (((1 : Int) : Int)) else some (((0 : Int) : Int)))
set_option maxRecDepth 100000 in
theorem strconv_bool2_int.walk (w : World) (M : List Nat) (hM : MS M w) (a0 : Bool) (r : Int) (H : strconv_bool2_int.f a0 = some r) :
    To Tryz.prog 188 [.bool a0] w fun v w' => v = .int .i64 r ∧ Chg [] w w' ∧ MS (M) w' := by
 unfold strconv_bool2_int.f at H
 refine ent Tryz.func188 rfl [(0, .bool a0)] rfl (by rfl) fun a ha => ?_
 have hC : Chg [] w w := Chg.refl _ _
 refine wp_seq_k fun K1 hK1 => ?_
 refine wp_region_lit ?_
 refine seg ha 1 [(0, .bool a0)] (by kernel_rfl) fun a ha => ?_
 refine hK1 _ _ ?_; try clear hK1 K1
 refine wp_seq_k fun K2 hK2 => ?_
 refine wp_seq_k fun K3 hK3 => ?_
 refine wp_region_lit ?_
 refine seg ha 1 [(3, .bool a0)] (by kernel_rfl) fun a ha => ?_
 refine hK3 _ _ ?_; try clear hK3 K3
 refine cnd ha rfl (fun hc4 => ?_) (fun hc4 => ?_)
 ·have H := ite_t hc4 H
  refine wp_seq_k fun K5 hK5 => ?_
  refine wp_region_lit ?_
  refine seg ha 1 [(2, .int .i64 (1 : Int))] (by kernel_rfl) fun a ha => ?_
  refine hK5 _ _ ?_; try clear hK5 K5
  refine wp_ret ?_
  try simp only [Exit.then, Exit.inBlock]
  obtain rfl := Option.some.inj H
  refine rt1 ha rfl rfl ?_
  exact ⟨rfl, hC, hM⟩
 ·have H := ite_f hc4 H
  refine wp_skip ?_
  refine hK2 _ _ ?_; try clear hK2 K2
  refine wp_seq_k fun K6 hK6 => ?_
  refine wp_region_lit ?_
  refine seg ha 1 [(2, .int .i64 (0 : Int))] (by kernel_rfl) fun a ha => ?_
  refine hK6 _ _ ?_; try clear hK6 K6
  refine wp_ret ?_
  try simp only [Exit.then, Exit.inBlock]
  obtain rfl := Option.some.inj H
  refine rt1 ha rfl rfl ?_
  exact ⟨rfl, hC, hM⟩
def strconv_numDigits.f (a0 : Int) : Option (Int) := (bits_Len64.f a0).bind fun t3 => (strconv_log10Pow2.f t3).bind fun t4 => (if 0 ≤ t4 ∧ t4 < (20 : Int) then (strconv_bool2_int.f (decide (a0 ≥ (ar Lib.pow10Tab (Int.toNat t4))))).bind fun t8 => some ((IntKind.i64.wrap (t4 + t8) : Int)) else none)
set_option maxRecDepth 100000 in
theorem strconv_numDigits.walk (w : World) (M : List Nat) (hM : MS M w) (hG : GF w M) (a0 : Int) (r : Int) (H : strconv_numDigits.f a0 = some r) :
    To Tryz.prog 147 [.int .u64 a0] w fun v w' => v = .int .i64 r ∧ Chg [] w w' ∧ MS (M) w' := by
 unfold strconv_numDigits.f at H
 refine ent Tryz.func147 rfl [(0, .int .u64 a0)] rfl (by rfl) fun a ha => ?_
 have hC : Chg [] w w := Chg.refl _ _
 refine wp_seq_k fun K1 hK1 => ?_
 refine wp_region_lit ?_
 refine seg ha 1 [(0, .int .u64 a0)] (by kernel_rfl) fun a ha => ?_
 refine hK1 _ _ ?_; try clear hK1 K1
 refine wp_seq_k fun K2 hK2 => ?_
 refine wp_region_lit ?_
 refine seg ha 1 [(0, .int .u64 a0), (4, .int .u64 a0)] (by kernel_rfl) fun a ha => ?_
 obtain ⟨t3, H3, H⟩ := bind_some H
 refine cl ha (by rfl) (by kernel_rfl) (by rfl) (by rfl) (by rfl) (bits_Len64.walk w _ hM a0 _ H3) ?_
 rintro _ w3 ⟨rfl, hc3, hMn⟩ a ha
 have o1 : Ok [] (M) w.heap.size := Ok.nil _ _
 have o2 : Ok (M) (M) w.heap.size := (Ok.refl _ _)
 have hG := hG.chg hc3 o1 o2
 have hM : MS (M) w3 := (hM.chg hc3)
 have hC := hC.trans hc3 (Ok.nil _ _)
 obtain ⟨t4, H4, H⟩ := bind_some H
 refine cl ha (by rfl) (by kernel_rfl) (by rfl) (by rfl) (by rfl) (strconv_log10Pow2.walk w3 _ hM t3 _ H4) ?_
 rintro _ w4 ⟨rfl, hc4, hMn⟩ a ha
 have o1 : Ok [] (M) w3.heap.size := Ok.nil _ _
 have o2 : Ok (M) (M) w3.heap.size := (Ok.refl _ _)
 have hG := hG.chg hc4 o1 o2
 have hM : MS (M) w4 := (hM.chg hc4)
 have hC := hC.trans hc4 (Ok.nil _ _)
 refine seg ha 1 [(0, .int .u64 a0), (3, .int .i64 t4)] (by kernel_rfl) fun a ha => ?_
 refine hK2 _ _ ?_; try clear hK2 K2
 refine wp_seq_k fun K5 hK5 => ?_
 refine wp_region_lit ?_
 refine seg ha 3 [(7, .int .i64 t4), (8, .int .u64 a0), (9, .int .i64 t4)] (by kernel_rfl) fun a ha => ?_
 have hTc6 := TabOk.cells (n := 20) hG.1 (by kernel_rfl) (by kernel_rfl)
 have hTn6 := (hG.1).2
 obtain ⟨⟨hx7, hx7'⟩, H⟩ := ite_some H
 have hE7 : ∀ j v, ([.int .u64 (ar Lib.pow10Tab (Int.toNat t4))] : List Value)[j]? = some v → w4.cell? ⟨1, (0 + 0 + (Int.toNat t4)) + j, none⟩ = some v := cellA (m := 20) [] [] hTc6 (by kernel_rfl) (by omega)
 have hn7 := hTn6
 refine hop (v := .pointer (some ⟨1, (0 + 0 + (Int.toNat t4)), none⟩)) (w' := w4) ha rfl rfl rfl (ixA_run (T := 182) (N := 20) (g := 1) (o' := 0) (k := .i64) (i := t4) ha (by kernel_rfl) (by kernel_rfl) (by rfl) (by rfl) hx7 hx7' _) fun a ha => ?_
 refine ld ha rfl (by kernel_rfl) rfl rfl rfl (hE7 0 (.int .u64 (ar Lib.pow10Tab (Int.toNat t4))) (by kernel_rfl)) fun a ha => ?_
 refine seg ha 1 [(7, .int .i64 t4), (12, .bool (decide (a0 ≥ (ar Lib.pow10Tab (Int.toNat t4)))))] (by kernel_rfl) fun a ha => ?_
 obtain ⟨t8, H8, H⟩ := bind_some H
 refine cl ha (by rfl) (by kernel_rfl) (by rfl) (by rfl) (by rfl) (strconv_bool2_int.walk w4 _ hM (decide (a0 ≥ (ar Lib.pow10Tab (Int.toNat t4)))) _ H8) ?_
 rintro _ w8 ⟨rfl, hc8, hMn⟩ a ha
 have o1 : Ok [] (M) w4.heap.size := Ok.nil _ _
 have o2 : Ok (M) (M) w4.heap.size := (Ok.refl _ _)
 have hG := hG.chg hc8 o1 o2
 have hM : MS (M) w8 := (hM.chg hc8)
 have hC := hC.trans hc8 (Ok.nil _ _)
 refine seg ha 2 [(2, .int .i64 (IntKind.i64.wrap (t4 + t8)))] (by kernel_rfl) fun a ha => ?_
 refine hK5 _ _ ?_; try clear hK5 K5
 refine wp_ret ?_
 try simp only [Exit.then, Exit.inBlock]
 obtain rfl := Option.some.inj H
 refine rt1 ha rfl rfl ?_
 exact ⟨rfl, hC, hM⟩
def strconv_isPowerOfTwo.f (a0 : Int) : Option (Bool) := some (((IntKind.i64.wrap (BitVec.ofInt IntKind.i64.bits a0 &&& BitVec.ofInt IntKind.i64.bits (IntKind.i64.wrap (a0 - (1 : Int)))).toNat) == (0 : Int) : Bool))
set_option maxRecDepth 100000 in
theorem strconv_isPowerOfTwo.walk (w : World) (M : List Nat) (hM : MS M w) (a0 : Int) (r : Bool) (H : strconv_isPowerOfTwo.f a0 = some r) :
    To Tryz.prog 189 [.int .i64 a0] w fun v w' => v = .bool r ∧ Chg [] w w' ∧ MS (M) w' := by
 unfold strconv_isPowerOfTwo.f at H
 refine ent Tryz.func189 rfl [(0, .int .i64 a0)] rfl (by rfl) fun a ha => ?_
 have hC : Chg [] w w := Chg.refl _ _
 refine wp_seq_k fun K1 hK1 => ?_
 refine wp_region_lit ?_
 refine seg ha 1 [(0, .int .i64 a0)] (by kernel_rfl) fun a ha => ?_
 refine hK1 _ _ ?_; try clear hK1 K1
 refine wp_seq_k fun K2 hK2 => ?_
 refine wp_region_lit ?_
 refine seg ha 6 [(2, .bool ((IntKind.i64.wrap (BitVec.ofInt IntKind.i64.bits a0 &&& BitVec.ofInt IntKind.i64.bits (IntKind.i64.wrap (a0 - (1 : Int)))).toNat) == (0 : Int)))] (by kernel_rfl) fun a ha => ?_
 refine hK2 _ _ ?_; try clear hK2 K2
 refine wp_ret ?_
 try simp only [Exit.then, Exit.inBlock]
 obtain rfl := Option.some.inj H
 refine rt1 ha rfl rfl ?_
 exact ⟨rfl, hC, hM⟩
def bits_TrailingZeros64.f (a0 : Int) : Option (Int) := (if (a0 == (0 : Int)) = true then some (((64 : Int) : Int)) else (some (Int.fdiv (IntKind.u64.wrap ((IntKind.u64.wrap (BitVec.ofInt IntKind.u64.bits a0 &&& BitVec.ofInt IntKind.u64.bits (IntKind.u64.wrap (0 - a0))).toNat) * (285870213051353865 : Int))) (2 ^ (min (58 : Int).toNat IntKind.u64.bits))) : Option Int).bind fun ix8 => (if 0 ≤ ix8 ∧ ix8 < (64 : Int) then some ((IntKind.i64.wrap (ar dbTab (Int.toNat ix8)) : Int)) else none))
set_option maxRecDepth 100000 in
theorem bits_TrailingZeros64.walk (w : World) (M : List Nat) (hM : MS M w) (hG : GF w M) (a0 : Int) (r : Int) (H : bits_TrailingZeros64.f a0 = some r) :
    To Tryz.prog 207 [.int .u64 a0] w fun v w' => v = .int .i64 r ∧ Chg [] w w' ∧ MS (M) w' := by
 unfold bits_TrailingZeros64.f at H
 refine ent Tryz.func207 rfl [(0, .int .u64 a0)] rfl (by rfl) fun a ha => ?_
 have hC : Chg [] w w := Chg.refl _ _
 refine wp_seq_k fun K1 hK1 => ?_
 refine wp_region_lit ?_
 refine seg ha 1 [(0, .int .u64 a0)] (by kernel_rfl) fun a ha => ?_
 refine hK1 _ _ ?_; try clear hK1 K1
 refine wp_seq_k fun K2 hK2 => ?_
 refine wp_seq_k fun K3 hK3 => ?_
 refine wp_region_lit ?_
 refine seg ha 2 [(0, .int .u64 a0), (4, .bool (a0 == (0 : Int)))] (by kernel_rfl) fun a ha => ?_
 refine hK3 _ _ ?_; try clear hK3 K3
 refine cnd ha rfl (fun hc4 => ?_) (fun hc4 => ?_)
 ·have H := ite_t hc4 H
  refine wp_seq_k fun K5 hK5 => ?_
  refine wp_region_lit ?_
  refine seg ha 1 [(2, .int .i64 (64 : Int))] (by kernel_rfl) fun a ha => ?_
  refine hK5 _ _ ?_; try clear hK5 K5
  refine wp_ret ?_
  try simp only [Exit.then, Exit.inBlock]
  obtain rfl := Option.some.inj H
  refine rt1 ha rfl rfl ?_
  exact ⟨rfl, hC, hM⟩
 ·have H := ite_f hc4 H
  refine wp_skip ?_
  refine hK2 _ _ ?_; try clear hK2 K2
  refine wp_seq_k fun K6 hK6 => ?_
  refine wp_region_lit ?_
  refine seg ha 6 [(10, .int .u64 (Int.fdiv (IntKind.u64.wrap ((IntKind.u64.wrap (BitVec.ofInt IntKind.u64.bits a0 &&& BitVec.ofInt IntKind.u64.bits (IntKind.u64.wrap (0 - a0))).toNat) * (285870213051353865 : Int))) (2 ^ (min (58 : Int).toNat IntKind.u64.bits))))] (by kernel_rfl) fun a ha => ?_
  have hTc7 := TabOk.cells (n := 64) hG.2.1 (by kernel_rfl) (by kernel_rfl)
  have hTn7 := (hG.2.1).2
  obtain ⟨ix8, hix8, H⟩ := bind_some H
  rw [Option.some.inj hix8] at ha
  obtain ⟨⟨hx9, hx9'⟩, H⟩ := ite_some H
  have hE9 : ∀ j v, ([.int .u8 (ar dbTab (Int.toNat ix8))] : List Value)[j]? = some v → w.cell? ⟨5, (0 + 0 + (Int.toNat ix8)) + j, none⟩ = some v := cellA (m := 64) [] [] hTc7 (by kernel_rfl) (by omega)
  have hn9 := hTn7
  refine hop (v := .pointer (some ⟨5, (0 + 0 + (Int.toNat ix8)), none⟩)) (w' := w) ha rfl rfl rfl (ixA_run (T := 5) (N := 64) (g := 5) (o' := 0) (k := .u64) (i := ix8) ha (by kernel_rfl) (by kernel_rfl) (by rfl) (by rfl) hx9 hx9' _) fun a ha => ?_
  refine ld ha rfl (by kernel_rfl) rfl rfl rfl (hE9 0 (.int .u8 (ar dbTab (Int.toNat ix8))) (by kernel_rfl)) fun a ha => ?_
  refine seg ha 2 [(2, .int .i64 (IntKind.i64.wrap (ar dbTab (Int.toNat ix8))))] (by kernel_rfl) fun a ha => ?_
  refine hK6 _ _ ?_; try clear hK6 K6
  refine wp_ret ?_
  try simp only [Exit.then, Exit.inBlock]
  obtain rfl := Option.some.inj H
  refine rt1 ha rfl rfl ?_
  exact ⟨rfl, hC, hM⟩
def bits_TrailingZeros.f (a0 : Int) : Option (Int) := (bits_TrailingZeros64.f a0).bind fun t5 => some ((t5 : Int))
set_option maxRecDepth 100000 in
theorem bits_TrailingZeros.walk (w : World) (M : List Nat) (hM : MS M w) (hG : GF w M) (a0 : Int) (r : Int) (H : bits_TrailingZeros.f a0 = some r) :
    To Tryz.prog 190 [.int .u64 a0] w fun v w' => v = .int .i64 r ∧ Chg [] w w' ∧ MS (M) w' := by
 unfold bits_TrailingZeros.f at H
 refine ent Tryz.func190 rfl [(0, .int .u64 a0)] rfl (by rfl) fun a ha => ?_
 have hC : Chg [] w w := Chg.refl _ _
 refine wp_seq_k fun K1 hK1 => ?_
 refine wp_region_lit ?_
 refine seg ha 1 [(0, .int .u64 a0)] (by kernel_rfl) fun a ha => ?_
 refine hK1 _ _ ?_; try clear hK1 K1
 refine wp_seq_k fun K2 hK2 => ?_
 refine cnd ha rfl (fun h => nomatch h) (fun _ => ?_)
 refine wp_skip ?_
 refine hK2 _ _ ?_; try clear hK2 K2
 refine wp_seq_k fun K4 hK4 => ?_
 refine wp_region_lit ?_
 refine seg ha 1 [(6, .int .u64 a0)] (by kernel_rfl) fun a ha => ?_
 obtain ⟨t5, H5, H⟩ := bind_some H
 refine cl ha (by rfl) (by kernel_rfl) (by rfl) (by rfl) (by rfl) (bits_TrailingZeros64.walk w _ hM hG a0 _ H5) ?_
 rintro _ w5 ⟨rfl, hc5, hMn⟩ a ha
 have o1 : Ok [] (M) w.heap.size := Ok.nil _ _
 have o2 : Ok (M) (M) w.heap.size := (Ok.refl _ _)
 have hG := hG.chg hc5 o1 o2
 have hM : MS (M) w5 := (hM.chg hc5)
 have hC := hC.trans hc5 (Ok.nil _ _)
 refine seg ha 1 [(2, .int .i64 t5)] (by kernel_rfl) fun a ha => ?_
 refine hK4 _ _ ?_; try clear hK4 K4
 refine wp_ret ?_
 try simp only [Exit.then, Exit.inBlock]
 obtain rfl := Option.some.inj H
 refine rt1 ha rfl rfl ?_
 exact ⟨rfl, hC, hM⟩
def strconv_formatBits.l0 (a2 : Int) (t35 : Int) : Nat → Int → Int → (List Int) → Option (Int × Int × List Int)
  | 0, _, _, _ => none
  | kk + 1, x40, x41, x42 => (if (decide (x40 ≥ (IntKind.u64.wrap a2))) = true then (if 0 ≤ (IntKind.u64.wrap (BitVec.ofInt IntKind.u64.bits x40 &&& BitVec.ofInt IntKind.u64.bits (IntKind.u64.wrap ((IntKind.u64.wrap a2) - (1 : Int)))).toNat) ∧ (IntKind.u64.wrap (BitVec.ofInt IntKind.u64.bits x40 &&& BitVec.ofInt IntKind.u64.bits (IntKind.u64.wrap ((IntKind.u64.wrap a2) - (1 : Int)))).toNat) < (([48, 49, 50, 51, 52, 53, 54, 55, 56, 57, 97, 98, 99, 100, 101, 102, 103, 104, 105, 106, 107, 108, 109, 110, 111, 112, 113, 114, 115, 116, 117, 118, 119, 120, 121, 122] : List UInt8).length : Int) then (if 0 ≤ (IntKind.i64.wrap (x41 - (1 : Int))) ∧ (IntKind.i64.wrap (x41 - (1 : Int))) < (65 : Int) then (if 0 ≤ (IntKind.u64.wrap t35) then strconv_formatBits.l0 a2 t35 kk (Int.fdiv x40 (2 ^ (min (Int.toNat (IntKind.u64.wrap t35)) IntKind.u64.bits))) (IntKind.i64.wrap (x41 - (1 : Int))) ((arL 65 x42).set (Int.toNat (IntKind.i64.wrap (x41 - (1 : Int)))) ((([48, 49, 50, 51, 52, 53, 54, 55, 56, 57, 97, 98, 99, 100, 101, 102, 103, 104, 105, 106, 107, 108, 109, 110, 111, 112, 113, 114, 115, 116, 117, 118, 119, 120, 121, 122] : List UInt8).getD (Int.toNat (IntKind.u64.wrap (BitVec.ofInt IntKind.u64.bits x40 &&& BitVec.ofInt IntKind.u64.bits (IntKind.u64.wrap ((IntKind.u64.wrap a2) - (1 : Int)))).toNat)) 0).toNat : Int)) else none) else none) else none) else some ((x40 : Int), (x41 : Int), (x42 : List Int)))
def strconv_formatBits.l1 (a2 : Int) : Nat → Int → Int → (List Int) → Option (Int × Int × List Int)
  | 0, _, _, _ => none
  | kk + 1, x61, x62, x63 => (if (decide (x61 ≥ (IntKind.u64.wrap a2))) = true then (if (IntKind.u64.wrap a2) ≠ 0 then (if 0 ≤ (IntKind.u64.wrap (x61 - (IntKind.u64.wrap ((IntKind.u64.wrap (Int.tdiv x61 (IntKind.u64.wrap a2))) * (IntKind.u64.wrap a2))))) ∧ (IntKind.u64.wrap (x61 - (IntKind.u64.wrap ((IntKind.u64.wrap (Int.tdiv x61 (IntKind.u64.wrap a2))) * (IntKind.u64.wrap a2))))) < (([48, 49, 50, 51, 52, 53, 54, 55, 56, 57, 97, 98, 99, 100, 101, 102, 103, 104, 105, 106, 107, 108, 109, 110, 111, 112, 113, 114, 115, 116, 117, 118, 119, 120, 121, 122] : List UInt8).length : Int) then (if 0 ≤ (IntKind.i64.wrap (x62 - (1 : Int))) ∧ (IntKind.i64.wrap (x62 - (1 : Int))) < (65 : Int) then strconv_formatBits.l1 a2 kk (IntKind.u64.wrap (Int.tdiv x61 (IntKind.u64.wrap a2))) (IntKind.i64.wrap (x62 - (1 : Int))) ((arL 65 x63).set (Int.toNat (IntKind.i64.wrap (x62 - (1 : Int)))) ((([48, 49, 50, 51, 52, 53, 54, 55, 56, 57, 97, 98, 99, 100, 101, 102, 103, 104, 105, 106, 107, 108, 109, 110, 111, 112, 113, 114, 115, 116, 117, 118, 119, 120, 121, 122] : List UInt8).getD (Int.toNat (IntKind.u64.wrap (x61 - (IntKind.u64.wrap ((IntKind.u64.wrap (Int.tdiv x61 (IntKind.u64.wrap a2))) * (IntKind.u64.wrap a2)))))) 0).toNat : Int)) else none) else none) else none) else some ((x61 : Int), (x62 : Int), (x63 : List Int)))
def strconv_formatBits.f (k : Nat) (a0 : List Int) (a1 : Int) (a2 : Int) (a3 : Bool) (a4 : Bool) : Option (List Int × List UInt8) := (if (if (if (decide (a2 < (2 : Int))) = true then true else (a2 == (10 : Int))) = true then true else (decide (a2 > (36 : Int)))) = true then none else ((if a3 = true then some (IntKind.u64.wrap (0 - a1) : Int) else some (a1 : Int))).bind fun s13 => ((strconv_isPowerOfTwo.f a2).bind fun t32 => (if t32 = true then (bits_TrailingZeros.f (IntKind.u64.wrap a2)).bind fun t35 => (strconv_formatBits.l0 a2 t35 k s13 (65 : Int) (List.replicate 65 (0 : Int))).bind fun s39 => (if 0 ≤ s39.1 ∧ s39.1 < (([48, 49, 50, 51, 52, 53, 54, 55, 56, 57, 97, 98, 99, 100, 101, 102, 103, 104, 105, 106, 107, 108, 109, 110, 111, 112, 113, 114, 115, 116, 117, 118, 119, 120, 121, 122] : List UInt8).length : Int) then (if 0 ≤ (IntKind.i64.wrap (s39.2.1 - (1 : Int))) ∧ (IntKind.i64.wrap (s39.2.1 - (1 : Int))) < (65 : Int) then some ((IntKind.i64.wrap (s39.2.1 - (1 : Int)) : Int), (((arL 65 s39.2.2).set (Int.toNat (IntKind.i64.wrap (s39.2.1 - (1 : Int)))) ((([48, 49, 50, 51, 52, 53, 54, 55, 56, 57, 97, 98, 99, 100, 101, 102, 103, 104, 105, 106, 107, 108, 109, 110, 111, 112, 113, 114, 115, 116, 117, 118, 119, 120, 121, 122] : List UInt8).getD (Int.toNat s39.1) 0).toNat : Int)) : List Int)) else none) else none) else (strconv_formatBits.l1 a2 k s13 (65 : Int) (List.replicate 65 (0 : Int))).bind fun s60 => (if 0 ≤ s60.1 ∧ s60.1 < (([48, 49, 50, 51, 52, 53, 54, 55, 56, 57, 97, 98, 99, 100, 101, 102, 103, 104, 105, 106, 107, 108, 109, 110, 111, 112, 113, 114, 115, 116, 117, 118, 119, 120, 121, 122] : List UInt8).length : Int) then (if 0 ≤ (IntKind.i64.wrap (s60.2.1 - (1 : Int))) ∧ (IntKind.i64.wrap (s60.2.1 - (1 : Int))) < (65 : Int) then some ((IntKind.i64.wrap (s60.2.1 - (1 : Int)) : Int), (((arL 65 s60.2.2).set (Int.toNat (IntKind.i64.wrap (s60.2.1 - (1 : Int)))) ((([48, 49, 50, 51, 52, 53, 54, 55, 56, 57, 97, 98, 99, 100, 101, 102, 103, 104, 105, 106, 107, 108, 109, 110, 111, 112, 113, 114, 115, 116, 117, 118, 119, 120, 121, 122] : List UInt8).getD (Int.toNat s60.1) 0).toNat : Int)) : List Int)) else none) else none))).bind fun s15 => ((if a3 = true then (if 0 ≤ (IntKind.i64.wrap (s15.1 - (1 : Int))) ∧ (IntKind.i64.wrap (s15.1 - (1 : Int))) < (65 : Int) then some ((IntKind.i64.wrap (s15.1 - (1 : Int)) : Int), (((arL 65 s15.2).set (Int.toNat (IntKind.i64.wrap (s15.1 - (1 : Int)))) (45 : Int)) : List Int)) else none) else some ((s15.1 : Int), (s15.2 : List Int)))).bind fun s17 => (if a4 = true then none else (if 0 ≤ s17.1 ∧ s17.1 ≤ (65 : Int) ∧ (65 : Int) ≤ (65 : Int) then some ((([] : List Int) : List Int), (b2s (((arL 65 s17.2).take (Int.toNat (65 : Int))).drop (Int.toNat s17.1)) : List UInt8)) else none)))
set_option maxRecDepth 100000 in
theorem strconv_formatBits.walk (w : World) (M : List Nat) (hM : MS M w) (hG : GF w M) (a0 : List Int) (ao1 : Option Addr) (cap1 : Nat) (f1 : RSl (rInt .u8) 5 w M ao1 cap1 a0) (a1 : Int) (a2 : Int) (a3 : Bool) (a4 : Bool) (k : Nat) (r : List Int × List UInt8) (H : strconv_formatBits.f k a0 a1 a2 a3 a4 = some r) :
    To Tryz.prog 149 [.slice ao1 a0.length cap1, .int .u64 a1, .int .i64 a2, .bool a3, .bool a4] w fun v w' => ∃ (ao82 : Option Addr) (cap82 : Nat), v = .tuple #[.slice ao82 r.1.length cap82, .string (bstr r.2)] ∧ (Own (rInt .u8) 5 w' (blkL ao82 ++ (M)) ao82 cap82 r.1) ∧ (∀ x ∈ blkL ao82, w.heap.size ≤ x) ∧ Chg [] w w' ∧ MS (blkL ao82 ++ (M)) w' := by
 unfold strconv_formatBits.f at H
 refine ent Tryz.func149 rfl [(0, .slice ao1 a0.length cap1), (1, .int .u64 a1), (2, .int .i64 a2), (3, .bool a3), (4, .bool a4)] rfl (by rfl) fun a ha => ?_
 have hC : Chg [] w w := Chg.refl _ _
 refine wp_seq_k fun K2 hK2 => ?_
 refine wp_region_lit ?_
 refine seg ha 2 [(0, .slice ao1 a0.length cap1), (1, .int .u64 a1), (2, .int .i64 a2), (3, .bool a3), (4, .bool a4), (10, .slice none 0 0), (11, .string (bstr ([] : List UInt8)))] (by kernel_rfl) fun a ha => ?_
 refine hK2 _ _ ?_; try clear hK2 K2
 refine wp_seq_k fun K3 hK3 => ?_
 refine wp_seq_k fun K4 hK4 => ?_
 refine wp_region_lit ?_
 refine seg ha 10 [(0, .slice ao1 a0.length cap1), (1, .int .u64 a1), (2, .int .i64 a2), (3, .bool a3), (4, .bool a4), (10, .slice none 0 0), (11, .string (bstr ([] : List UInt8))), (28, .bool (if (if (decide (a2 < (2 : Int))) = true then true else (a2 == (10 : Int))) = true then true else (decide (a2 > (36 : Int)))))] (by kernel_rfl) fun a ha => ?_
 refine hK4 _ _ ?_; try clear hK4 K4
 refine cnd ha rfl (fun hc5 => ?_) (fun hc5 => ?_)
 ·have H := ite_t hc5 H
  exact nomatch (show none = some _ from H)
 ·have H := ite_f hc5 H
  refine wp_skip ?_
  refine hK3 _ _ ?_; try clear hK3 K3
  refine wp_seq_k fun K6 hK6 => ?_
  refine wp_region_lit ?_
  refine al (cs := (cA .u8 65 (List.replicate 65 (0 : Int)))) (z := .agg (cA .u8 65 (List.replicate 65 (0 : Int))).toArray) ha (fun w => by kernel_rfl) rfl rfl rfl rfl fun a w7 g8 hN9 ha => ?_
  have o1 : Ok [] (M) w.heap.size := Ok.nil _ _
  have o2 : Ok ([g8] ++ (M)) (M) w.heap.size := (Ok.app (hN9.ok _) (Ok.refl _ _))
  have hG := hG.chg hN9.chg o1 o2
  have f1 := f1.chg hN9.chg o1 o2
  have p_i10_M : ∀ x ∈ [g8], x ∉ M := fun x hx hy => absurd (hM x (hy)) (Nat.not_lt.2 ((hN9.ge1) x hx))
  have e_i10 : ∀ x ∈ [g8], w.heap.size ≤ x := fun x hx => Nat.le_trans hC.size ((hN9.ge1) x hx)
  have hM : MS ([g8] ++ (M)) w7 := (MS.app hN9.ms (hM.chg hN9.chg))
  have hC := hC.trans hN9.chg (Ok.nil _ _)
  have hBg8 : Box w7 g8 (cA .u8 65 (List.replicate 65 (0 : Int))) := hN9.box
  refine hK6 _ _ ?_; try clear hK6 K6
  refine wp_seq_k fun K11 hK11 => ?_
  refine wp_region_lit ?_
  refine seg ha 1 [(0, .slice ao1 a0.length cap1), (1, .int .u64 a1), (2, .int .i64 a2), (3, .bool a3), (4, .bool a4), (10, .slice none 0 0), (11, .string (bstr ([] : List UInt8))), (12, .pointer (some ⟨g8, 0, none⟩)), (13, .int .i64 (65 : Int))] (by kernel_rfl) fun a ha => ?_
  refine hK11 _ _ ?_; try clear hK11 K11
  refine wp_seq_k fun K12 hK12 => ?_
  obtain ⟨s13, H13, H⟩ := bind_some H
  have J13 : ∀ (a : Act) (w13 : World), Has a Tryz.f149.ntmps [(0, .slice ao1 a0.length cap1), (1, .int .u64 s13), (2, .int .i64 a2), (3, .bool a3), (4, .bool a4), (10, .slice none 0 0), (11, .string (bstr ([] : List UInt8))), (12, .pointer (some ⟨g8, 0, none⟩)), (13, .int .i64 (65 : Int))] → (RSl (rInt .u8) 5 w13 ([g8] ++ (M)) ao1 cap1 a0) → (Box w13 g8 (cA .u8 65 (List.replicate 65 (0 : Int)))) → (GF w13 ([g8] ++ (M))) → (Chg [] w w13) → (MS ([g8] ++ (M)) w13) → K12 a w13 := by
   intro a w13 ha f1 hBg8 hG hC hM
   refine hK12 _ _ ?_; try clear hK12 K12
   refine wp_seq_k fun K14 hK14 => ?_
   obtain ⟨s15, H15, H⟩ := bind_some H
   have J15 : ∀ (a : Act) (w15 : World), Has a Tryz.f149.ntmps [(0, .slice ao1 a0.length cap1), (3, .bool a3), (4, .bool a4), (10, .slice none 0 0), (11, .string (bstr ([] : List UInt8))), (12, .pointer (some ⟨g8, 0, none⟩)), (13, .int .i64 s15.1)] → (RSl (rInt .u8) 5 w15 ([g8] ++ (M)) ao1 cap1 a0) → (Box w15 g8 (cA .u8 65 s15.2)) → (GF w15 ([g8] ++ (M))) → (Chg [] w w15) → (MS ([g8] ++ (M)) w15) → K14 a w15 := by
    intro a w15 ha f1 hBg8 hG hC hM
    refine hK14 _ _ ?_; try clear hK14 K14
    refine wp_seq_k fun K16 hK16 => ?_
    obtain ⟨s17, H17, H⟩ := bind_some H
    have J17 : ∀ (a : Act) (w17 : World), Has a Tryz.f149.ntmps [(0, .slice ao1 a0.length cap1), (4, .bool a4), (10, .slice none 0 0), (11, .string (bstr ([] : List UInt8))), (12, .pointer (some ⟨g8, 0, none⟩)), (13, .int .i64 s17.1)] → (RSl (rInt .u8) 5 w17 ([g8] ++ (M)) ao1 cap1 a0) → (Box w17 g8 (cA .u8 65 s17.2)) → (GF w17 ([g8] ++ (M))) → (Chg [] w w17) → (MS ([g8] ++ (M)) w17) → K16 a w17 := by
     intro a w17 ha f1 hBg8 hG hC hM
     refine hK16 _ _ ?_; try clear hK16 K16
     refine wp_seq_k fun K18 hK18 => ?_
     refine wp_seq_k fun K19 hK19 => ?_
     refine wp_region_lit ?_
     refine seg ha 1 [(0, .slice ao1 a0.length cap1), (10, .slice none 0 0), (11, .string (bstr ([] : List UInt8))), (12, .pointer (some ⟨g8, 0, none⟩)), (13, .int .i64 s17.1), (94, .bool a4)] (by kernel_rfl) fun a ha => ?_
     refine hK19 _ _ ?_; try clear hK19 K19
     refine cnd ha rfl (fun hc20 => ?_) (fun hc20 => ?_)
     ·have H := ite_t hc20 H
      exact nomatch (show none = some _ from H)
     ·have H := ite_f hc20 H
      refine wp_skip ?_
      refine hK18 _ _ ?_; try clear hK18 K18
      refine wp_seq_k fun K21 hK21 => ?_
      refine wp_region_lit ?_
      refine seg ha 1 [(10, .slice none 0 0), (12, .pointer (some ⟨g8, 0, none⟩)), (99, .int .i64 s17.1)] (by kernel_rfl) fun a ha => ?_
      have fw22 : RSl (rInt .u8) 5 w17 (butL g8 w17) (some ⟨g8, 0, none⟩) 65 (arL 65 s17.2) := RSl.ofA ([] : List Value) ([] : List Value) (Box.cells hBg8) butL_self (by kernel_rfl) rfl
      obtain ⟨⟨hx23, hx23', hx23''⟩, H⟩ := ite_some H
      obtain ⟨ao23, cap23, f23, hr23⟩ := slA_run (kk := .u8) (T := 5) (N := 65) (g := g8) (o' := 0) (xs := (arL 65 s17.2)) (t := 209) (lo := (Option.some (Operand.tmp 99))) (hi := Option.none) (l := s17.1) (h := (65 : Int)) (dd := some 100) (ty := 67) (pos := "itoa.go:146") (af := #[{ on := 0, ground := Ground.data }]) (gd := Option.none) ha (by kernel_rfl) (by kernel_rfl) (x := (Operand.tmp 12)) rfl (arL_length _ _) rfl rfl fw22 hx23 hx23' (by rw [arL_length]; exact hx23'')
      refine hop (v := .slice ao23 (((arL 65 s17.2).take (Int.toNat (65 : Int))).drop (Int.toNat s17.1)).length cap23) (w' := w17) ha rfl rfl rfl (hr23 _) fun a ha => ?_
      refine cvs ha rfl (by kernel_rfl) (by kernel_rfl) (by kernel_rfl) rfl rfl rfl f23 fun a ha => ?_
      refine seg ha 1 [(10, .slice none 0 0), (11, .string (bstr (b2s (((arL 65 s17.2).take (Int.toNat (65 : Int))).drop (Int.toNat s17.1)))))] (by kernel_rfl) fun a ha => ?_
      refine hK21 _ _ ?_; try clear hK21 K21
      refine wp_ret ?_
      try simp only [Exit.then, Exit.inBlock]
      have o1 : Ok [] ([g8] ++ (M)) w17.heap.size := Ok.nil _ _
      have o2 : Ok (blkL none ++ (M)) ([g8] ++ (M)) w17.heap.size := (Ok.app (fun _ h => nomatch h) (fun _ h => .inl (mr (h))))
      have hG := hG.chg (Chg.refl [] _) o1 o2
      have hBg8 := hBg8.chg (Chg.refl [] _) (fun h => nomatch h)
      have p_z24_M : ∀ x ∈ blkL none, x ∉ M := fun x hx hy => absurd (hM x (mr (hy))) (Nat.not_lt.2 ((fun _ h => nomatch h) x hx))
      have e_z24 : ∀ x ∈ blkL none, w.heap.size ≤ x := fun x hx => Nat.le_trans hC.size ((fun _ h => nomatch h) x hx)
      have hM : MS (blkL none ++ (M)) w17 := (MS.app (fun _ h => nomatch h) (fun x h => hM.chg (Chg.refl [] _) x (mr (h))))
      have hC := hC.trans (Chg.refl [] _) (Ok.nil _ _)
      obtain rfl := Option.some.inj H
      refine rt2 ha rfl rfl rfl ?_
      exact ⟨none, 0, rfl, Own.nil, e_z24, hC, hM⟩
    have H := H17
    refine wp_seq_k fun K25 hK25 => ?_
    refine wp_region_lit ?_
    refine seg ha 1 [(0, .slice ao1 a0.length cap1), (4, .bool a4), (10, .slice none 0 0), (11, .string (bstr ([] : List UInt8))), (12, .pointer (some ⟨g8, 0, none⟩)), (13, .int .i64 s15.1), (89, .bool a3)] (by kernel_rfl) fun a ha => ?_
    refine hK25 _ _ ?_; try clear hK25 K25
    refine cnd ha rfl (fun hc26 => ?_) (fun hc26 => ?_)
    ·have H := ite_t hc26 H
     refine wp_seq_k fun K27 hK27 => ?_
     refine wp_region_lit ?_
     refine seg ha 3 [(0, .slice ao1 a0.length cap1), (4, .bool a4), (10, .slice none 0 0), (11, .string (bstr ([] : List UInt8))), (12, .pointer (some ⟨g8, 0, none⟩)), (13, .int .i64 (IntKind.i64.wrap (s15.1 - (1 : Int))))] (by kernel_rfl) fun a ha => ?_
     refine hK27 _ _ ?_; try clear hK27 K27
     refine wp_region_lit ?_
     refine seg ha 1 [(0, .slice ao1 a0.length cap1), (4, .bool a4), (10, .slice none 0 0), (11, .string (bstr ([] : List UInt8))), (12, .pointer (some ⟨g8, 0, none⟩)), (13, .int .i64 (IntKind.i64.wrap (s15.1 - (1 : Int)))), (92, .int .i64 (IntKind.i64.wrap (s15.1 - (1 : Int))))] (by kernel_rfl) fun a ha => ?_
     obtain ⟨⟨hx28, hx28'⟩, H⟩ := ite_some H
     have hi28 : (Int.toNat (IntKind.i64.wrap (s15.1 - (1 : Int)))) < 65 := by omega
     refine hop (v := .pointer (some ⟨g8, 0 + (Int.toNat (IntKind.i64.wrap (s15.1 - (1 : Int)))), none⟩)) (w' := w15) ha rfl rfl rfl (ixA_run (T := 5) (N := 65) (g := g8) (o' := 0) (k := .i64) (i := IntKind.i64.wrap (s15.1 - (1 : Int))) ha (by kernel_rfl) (by kernel_rfl) (by rfl) (by rfl) hx28 hx28' _) fun a ha => ?_
     refine st (o' := 0 + (Int.toNat (IntKind.i64.wrap (s15.1 - (1 : Int))))) ha rfl rfl rfl (by kernel_rfl) rfl rfl hBg8 (arr_lt (k := .u8) (m := 65) (x := s15.2) ([] : List Value) ([] : List Value) (by kernel_rfl) hi28) fun a w29 ha hb2 hc30 _ => ?_
     have o1 : Ok [g8] ([g8] ++ (M)) w15.heap.size := (fun _ h => .inl (ml h))
     have o2 : Ok ([g8] ++ (M)) ([g8] ++ (M)) w15.heap.size := (Ok.refl _ _)
     have hG := hG.chg hc30 o1 o2
     have f1 := f1.chg hc30 o1 o2
     have hM : MS ([g8] ++ (M)) w29 := (hM.chg hc30)
     have hC := hC.trans hc30 (fun x h => .inr (e_i10 x h))
     have hBg8 : Box w29 g8 (cA .u8 65 ((arL 65 s15.2).set (Int.toNat (IntKind.i64.wrap (s15.1 - (1 : Int)))) (45 : Int))) := Box.setA (k := .u8) (m := 65) (x := s15.2) ([] : List Value) ([] : List Value) hb2 (by kernel_rfl) hi28 (by kernel_rfl)
     obtain rfl := Option.some.inj H
     exact J17 _ _ (ha.sel (by kernel_rfl)) f1 hBg8 hG hC hM
    ·have H := ite_f hc26 H
     refine wp_skip ?_
     obtain rfl := Option.some.inj H
     exact J17 _ _ (ha.sel (by kernel_rfl)) f1 hBg8 hG hC hM
   have H := H15
   refine wp_seq_k fun K31 hK31 => ?_
   refine wp_region_lit ?_
   refine seg ha 1 [(0, .slice ao1 a0.length cap1), (1, .int .u64 s13), (2, .int .i64 a2), (3, .bool a3), (4, .bool a4), (10, .slice none 0 0), (11, .string (bstr ([] : List UInt8))), (12, .pointer (some ⟨g8, 0, none⟩)), (13, .int .i64 (65 : Int)), (33, .int .i64 a2)] (by kernel_rfl) fun a ha => ?_
   obtain ⟨t32, H32, H⟩ := bind_some H
   refine cl ha (by rfl) (by kernel_rfl) (by rfl) (by rfl) (by rfl) (strconv_isPowerOfTwo.walk w13 _ hM a2 _ H32) ?_
   rintro _ w32 ⟨rfl, hc32, hMn⟩ a ha
   have o1 : Ok [] ([g8] ++ (M)) w13.heap.size := Ok.nil _ _
   have o2 : Ok ([g8] ++ (M)) ([g8] ++ (M)) w13.heap.size := (Ok.refl _ _)
   have hG := hG.chg hc32 o1 o2
   have f1 := f1.chg hc32 o1 o2
   have hBg8 := hBg8.chg hc32 (fun h => nomatch h)
   have hM : MS ([g8] ++ (M)) w32 := (hM.chg hc32)
   have hC := hC.trans hc32 (Ok.nil _ _)
   refine hK31 _ _ ?_; try clear hK31 K31
   refine cnd ha rfl (fun hc33 => ?_) (fun hc33 => ?_)
   ·have H := ite_t hc33 H
    refine wp_seq_k fun K34 hK34 => ?_
    refine wp_region_lit ?_
    refine seg ha 2 [(0, .slice ao1 a0.length cap1), (1, .int .u64 s13), (2, .int .i64 a2), (3, .bool a3), (4, .bool a4), (10, .slice none 0 0), (11, .string (bstr ([] : List UInt8))), (12, .pointer (some ⟨g8, 0, none⟩)), (13, .int .i64 (65 : Int)), (36, .int .u64 (IntKind.u64.wrap a2))] (by kernel_rfl) fun a ha => ?_
    obtain ⟨t35, H35, H⟩ := bind_some H
    refine cl ha (by rfl) (by kernel_rfl) (by rfl) (by rfl) (by rfl) (bits_TrailingZeros.walk w32 _ hM hG (IntKind.u64.wrap a2) _ H35) ?_
    rintro _ w35 ⟨rfl, hc35, hMn⟩ a ha
    have o1 : Ok [] ([g8] ++ (M)) w32.heap.size := Ok.nil _ _
    have o2 : Ok ([g8] ++ (M)) ([g8] ++ (M)) w32.heap.size := (Ok.refl _ _)
    have hG := hG.chg hc35 o1 o2
    have f1 := f1.chg hc35 o1 o2
    have hBg8 := hBg8.chg hc35 (fun h => nomatch h)
    have hM : MS ([g8] ++ (M)) w35 := (hM.chg hc35)
    have hC := hC.trans hc35 (Ok.nil _ _)
    refine seg ha 2 [(0, .slice ao1 a0.length cap1), (1, .int .u64 s13), (2, .int .i64 a2), (3, .bool a3), (4, .bool a4), (10, .slice none 0 0), (11, .string (bstr ([] : List UInt8))), (12, .pointer (some ⟨g8, 0, none⟩)), (13, .int .i64 (65 : Int)), (14, .int .u64 (IntKind.u64.wrap t35))] (by kernel_rfl) fun a ha => ?_
    refine hK34 _ _ ?_; try clear hK34 K34
    refine wp_seq_k fun K36 hK36 => ?_
    refine wp_region_lit ?_
    refine seg ha 3 [(0, .slice ao1 a0.length cap1), (1, .int .u64 s13), (2, .int .i64 a2), (3, .bool a3), (4, .bool a4), (10, .slice none 0 0), (11, .string (bstr ([] : List UInt8))), (12, .pointer (some ⟨g8, 0, none⟩)), (13, .int .i64 (65 : Int)), (14, .int .u64 (IntKind.u64.wrap t35)), (15, .int .u64 (IntKind.u64.wrap a2))] (by kernel_rfl) fun a ha => ?_
    refine hK36 _ _ ?_; try clear hK36 K36
    refine wp_seq_k fun K37 hK37 => ?_
    refine wp_region_lit ?_
    refine seg ha 4 [(0, .slice ao1 a0.length cap1), (1, .int .u64 s13), (3, .bool a3), (4, .bool a4), (10, .slice none 0 0), (11, .string (bstr ([] : List UInt8))), (12, .pointer (some ⟨g8, 0, none⟩)), (13, .int .i64 (65 : Int)), (14, .int .u64 (IntKind.u64.wrap t35)), (15, .int .u64 (IntKind.u64.wrap a2)), (16, .int .u64 (IntKind.u64.wrap ((IntKind.u64.wrap a2) - (1 : Int))))] (by kernel_rfl) fun a ha => ?_
    refine hK37 _ _ ?_; try clear hK37 K37
    refine wp_seq_k fun K38 hK38 => ?_
    refine wp_block ?_
    obtain ⟨s39, H39, H⟩ := bind_some H
    have J39 : ∀ (a : Act) (wx39 : World), Has a Tryz.f149.ntmps [(0, .slice ao1 a0.length cap1), (1, .int .u64 s39.1), (3, .bool a3), (4, .bool a4), (10, .slice none 0 0), (11, .string (bstr ([] : List UInt8))), (12, .pointer (some ⟨g8, 0, none⟩)), (13, .int .i64 s39.2.1)] → (RSl (rInt .u8) 5 wx39 ([g8] ++ (M)) ao1 cap1 a0) → (Box wx39 g8 (cA .u8 65 s39.2.2)) → (GF wx39 ([g8] ++ (M))) → (Chg [] w wx39) → (MS ([g8] ++ (M)) wx39) → K38 a wx39 := by
     intro a wx39 ha f1 hBg8 hG hC hM
     refine hK38 _ _ ?_; try clear hK38 K38
     refine wp_seq_k fun K43 hK43 => ?_
     refine wp_region_lit ?_
     refine seg ha 3 [(0, .slice ao1 a0.length cap1), (1, .int .u64 s39.1), (3, .bool a3), (4, .bool a4), (10, .slice none 0 0), (11, .string (bstr ([] : List UInt8))), (12, .pointer (some ⟨g8, 0, none⟩)), (13, .int .i64 (IntKind.i64.wrap (s39.2.1 - (1 : Int))))] (by kernel_rfl) fun a ha => ?_
     refine hK43 _ _ ?_; try clear hK43 K43
     refine wp_region_lit ?_
     refine seg ha 2 [(0, .slice ao1 a0.length cap1), (3, .bool a3), (4, .bool a4), (10, .slice none 0 0), (11, .string (bstr ([] : List UInt8))), (12, .pointer (some ⟨g8, 0, none⟩)), (13, .int .i64 (IntKind.i64.wrap (s39.2.1 - (1 : Int)))), (60, .int .i64 (IntKind.i64.wrap (s39.2.1 - (1 : Int)))), (61, .int .u64 s39.1)] (by kernel_rfl) fun a ha => ?_
     obtain ⟨⟨hx44, hx44'⟩, H⟩ := ite_some H
     refine hop (v := .int .u8 ((([48, 49, 50, 51, 52, 53, 54, 55, 56, 57, 97, 98, 99, 100, 101, 102, 103, 104, 105, 106, 107, 108, 109, 110, 111, 112, 113, 114, 115, 116, 117, 118, 119, 120, 121, 122] : List UInt8).getD (Int.toNat s39.1) 0).toNat : Int)) (w' := wx39) ha rfl rfl rfl (sidx_run (l := ([48, 49, 50, 51, 52, 53, 54, 55, 56, 57, 97, 98, 99, 100, 101, 102, 103, 104, 105, 106, 107, 108, 109, 110, 111, 112, 113, 114, 115, 116, 117, 118, 119, 120, 121, 122] : List UInt8)) (k := .u64) (i := s39.1) ha (by kernel_rfl) (by rfl) (by rfl) hx44 hx44' _) fun a ha => ?_
     obtain ⟨⟨hx45, hx45'⟩, H⟩ := ite_some H
     have hi45 : (Int.toNat (IntKind.i64.wrap (s39.2.1 - (1 : Int)))) < 65 := by omega
     refine hop (v := .pointer (some ⟨g8, 0 + (Int.toNat (IntKind.i64.wrap (s39.2.1 - (1 : Int)))), none⟩)) (w' := wx39) ha rfl rfl rfl (ixA_run (T := 5) (N := 65) (g := g8) (o' := 0) (k := .i64) (i := IntKind.i64.wrap (s39.2.1 - (1 : Int))) ha (by kernel_rfl) (by kernel_rfl) (by rfl) (by rfl) hx45 hx45' _) fun a ha => ?_
     refine st (o' := 0 + (Int.toNat (IntKind.i64.wrap (s39.2.1 - (1 : Int))))) ha rfl rfl rfl (by kernel_rfl) rfl rfl hBg8 (arr_lt (k := .u8) (m := 65) (x := s39.2.2) ([] : List Value) ([] : List Value) (by kernel_rfl) hi45) fun a w46 ha hb2 hc47 _ => ?_
     have o1 : Ok [g8] ([g8] ++ (M)) wx39.heap.size := (fun _ h => .inl (ml h))
     have o2 : Ok ([g8] ++ (M)) ([g8] ++ (M)) wx39.heap.size := (Ok.refl _ _)
     have hG := hG.chg hc47 o1 o2
     have f1 := f1.chg hc47 o1 o2
     have hM : MS ([g8] ++ (M)) w46 := (hM.chg hc47)
     have hC := hC.trans hc47 (fun x h => .inr (e_i10 x h))
     have hBg8 : Box w46 g8 (cA .u8 65 ((arL 65 s39.2.2).set (Int.toNat (IntKind.i64.wrap (s39.2.1 - (1 : Int)))) ((([48, 49, 50, 51, 52, 53, 54, 55, 56, 57, 97, 98, 99, 100, 101, 102, 103, 104, 105, 106, 107, 108, 109, 110, 111, 112, 113, 114, 115, 116, 117, 118, 119, 120, 121, 122] : List UInt8).getD (Int.toNat s39.1) 0).toNat : Int))) := Box.setA (k := .u8) (m := 65) (x := s39.2.2) ([] : List Value) ([] : List Value) hb2 (by kernel_rfl) hi45 (by kernel_rfl)
     obtain rfl := Option.some.inj H
     exact J15 _ _ (ha.sel (by kernel_rfl)) f1 hBg8 hG hC hM
    have Hc39 := H
    have H := H39
    refine wp_loop_ghost (fun kk a w39 => ∃ (x40 : Int) (x41 : Int) (x42 : List Int), strconv_formatBits.l0 a2 t35 kk x40 x41 x42 = some s39 ∧ Has a Tryz.f149.ntmps [(0, .slice ao1 a0.length cap1), (1, .int .u64 x40), (3, .bool a3), (4, .bool a4), (10, .slice none 0 0), (11, .string (bstr ([] : List UInt8))), (12, .pointer (some ⟨g8, 0, none⟩)), (13, .int .i64 x41), (14, .int .u64 (IntKind.u64.wrap t35)), (15, .int .u64 (IntKind.u64.wrap a2)), (16, .int .u64 (IntKind.u64.wrap ((IntKind.u64.wrap a2) - (1 : Int))))] ∧ (RSl (rInt .u8) 5 w39 ([g8] ++ (M)) ao1 cap1 a0) ∧ (Box w39 g8 (cA .u8 65 x42)) ∧ (GF w39 ([g8] ++ (M))) ∧ (Chg [] w w39) ∧ (MS ([g8] ++ (M)) w39)) k ?_ ?_
    ·skip
     exact ⟨s13, (65 : Int), (List.replicate 65 (0 : Int)), H, (ha.sel (by kernel_rfl)), f1, hBg8, hG, hC, hM⟩
    ·rintro kk a w39 ⟨x40, x41, x42, H, ha, f1, hBg8, hG, hC, hM⟩
     obtain _ | kk := kk
     ·exact nomatch (show none = some _ from H)
     rw [strconv_formatBits.l0] at H
     refine wp_seq_k fun K48 hK48 => ?_
     refine wp_seq_k fun K49 hK49 => ?_
     refine wp_region_lit ?_
     refine seg ha 3 [(0, .slice ao1 a0.length cap1), (1, .int .u64 x40), (3, .bool a3), (4, .bool a4), (10, .slice none 0 0), (11, .string (bstr ([] : List UInt8))), (12, .pointer (some ⟨g8, 0, none⟩)), (13, .int .i64 x41), (14, .int .u64 (IntKind.u64.wrap t35)), (15, .int .u64 (IntKind.u64.wrap a2)), (16, .int .u64 (IntKind.u64.wrap ((IntKind.u64.wrap a2) - (1 : Int)))), (46, .bool (decide (x40 ≥ (IntKind.u64.wrap a2))))] (by kernel_rfl) fun a ha => ?_
     refine hK49 _ _ ?_; try clear hK49 K49
     refine cnd ha rfl (fun hc50 => ?_) (fun hc50 => ?_)
     ·have H := ite_t hc50 H
      refine wp_skip ?_
      refine hK48 _ _ ?_; try clear hK48 K48
      refine wp_block ?_
      refine wp_seq_k fun K51 hK51 => ?_
      refine wp_region_lit ?_
      refine seg ha 3 [(0, .slice ao1 a0.length cap1), (1, .int .u64 x40), (3, .bool a3), (4, .bool a4), (10, .slice none 0 0), (11, .string (bstr ([] : List UInt8))), (12, .pointer (some ⟨g8, 0, none⟩)), (13, .int .i64 (IntKind.i64.wrap (x41 - (1 : Int)))), (14, .int .u64 (IntKind.u64.wrap t35)), (15, .int .u64 (IntKind.u64.wrap a2)), (16, .int .u64 (IntKind.u64.wrap ((IntKind.u64.wrap a2) - (1 : Int))))] (by kernel_rfl) fun a ha => ?_
      refine hK51 _ _ ?_; try clear hK51 K51
      refine wp_seq_k fun K52 hK52 => ?_
      refine wp_region_lit ?_
      refine seg ha 4 [(0, .slice ao1 a0.length cap1), (1, .int .u64 x40), (3, .bool a3), (4, .bool a4), (10, .slice none 0 0), (11, .string (bstr ([] : List UInt8))), (12, .pointer (some ⟨g8, 0, none⟩)), (13, .int .i64 (IntKind.i64.wrap (x41 - (1 : Int)))), (14, .int .u64 (IntKind.u64.wrap t35)), (15, .int .u64 (IntKind.u64.wrap a2)), (16, .int .u64 (IntKind.u64.wrap ((IntKind.u64.wrap a2) - (1 : Int)))), (49, .int .i64 (IntKind.i64.wrap (x41 - (1 : Int)))), (52, .int .u64 (IntKind.u64.wrap (BitVec.ofInt IntKind.u64.bits x40 &&& BitVec.ofInt IntKind.u64.bits (IntKind.u64.wrap ((IntKind.u64.wrap a2) - (1 : Int)))).toNat))] (by kernel_rfl) fun a ha => ?_
      obtain ⟨⟨hx53, hx53'⟩, H⟩ := ite_some H
      refine hop (v := .int .u8 ((([48, 49, 50, 51, 52, 53, 54, 55, 56, 57, 97, 98, 99, 100, 101, 102, 103, 104, 105, 106, 107, 108, 109, 110, 111, 112, 113, 114, 115, 116, 117, 118, 119, 120, 121, 122] : List UInt8).getD (Int.toNat (IntKind.u64.wrap (BitVec.ofInt IntKind.u64.bits x40 &&& BitVec.ofInt IntKind.u64.bits (IntKind.u64.wrap ((IntKind.u64.wrap a2) - (1 : Int)))).toNat)) 0).toNat : Int)) (w' := w39) ha rfl rfl rfl (sidx_run (l := ([48, 49, 50, 51, 52, 53, 54, 55, 56, 57, 97, 98, 99, 100, 101, 102, 103, 104, 105, 106, 107, 108, 109, 110, 111, 112, 113, 114, 115, 116, 117, 118, 119, 120, 121, 122] : List UInt8)) (k := .u64) (i := IntKind.u64.wrap (BitVec.ofInt IntKind.u64.bits x40 &&& BitVec.ofInt IntKind.u64.bits (IntKind.u64.wrap ((IntKind.u64.wrap a2) - (1 : Int)))).toNat) ha (by kernel_rfl) (by rfl) (by rfl) hx53 hx53' _) fun a ha => ?_
      obtain ⟨⟨hx54, hx54'⟩, H⟩ := ite_some H
      have hi54 : (Int.toNat (IntKind.i64.wrap (x41 - (1 : Int)))) < 65 := by omega
      refine hop (v := .pointer (some ⟨g8, 0 + (Int.toNat (IntKind.i64.wrap (x41 - (1 : Int)))), none⟩)) (w' := w39) ha rfl rfl rfl (ixA_run (T := 5) (N := 65) (g := g8) (o' := 0) (k := .i64) (i := IntKind.i64.wrap (x41 - (1 : Int))) ha (by kernel_rfl) (by kernel_rfl) (by rfl) (by rfl) hx54 hx54' _) fun a ha => ?_
      refine st (o' := 0 + (Int.toNat (IntKind.i64.wrap (x41 - (1 : Int))))) ha rfl rfl rfl (by kernel_rfl) rfl rfl hBg8 (arr_lt (k := .u8) (m := 65) (x := x42) ([] : List Value) ([] : List Value) (by kernel_rfl) hi54) fun a w55 ha hb2 hc56 _ => ?_
      have o1 : Ok [g8] ([g8] ++ (M)) w39.heap.size := (fun _ h => .inl (ml h))
      have o2 : Ok ([g8] ++ (M)) ([g8] ++ (M)) w39.heap.size := (Ok.refl _ _)
      have hG := hG.chg hc56 o1 o2
      have f1 := f1.chg hc56 o1 o2
      have hM : MS ([g8] ++ (M)) w55 := (hM.chg hc56)
      have hC := hC.trans hc56 (fun x h => .inr (e_i10 x h))
      have hBg8 : Box w55 g8 (cA .u8 65 ((arL 65 x42).set (Int.toNat (IntKind.i64.wrap (x41 - (1 : Int)))) ((([48, 49, 50, 51, 52, 53, 54, 55, 56, 57, 97, 98, 99, 100, 101, 102, 103, 104, 105, 106, 107, 108, 109, 110, 111, 112, 113, 114, 115, 116, 117, 118, 119, 120, 121, 122] : List UInt8).getD (Int.toNat (IntKind.u64.wrap (BitVec.ofInt IntKind.u64.bits x40 &&& BitVec.ofInt IntKind.u64.bits (IntKind.u64.wrap ((IntKind.u64.wrap a2) - (1 : Int)))).toNat)) 0).toNat : Int))) := Box.setA (k := .u8) (m := 65) (x := x42) ([] : List Value) ([] : List Value) hb2 (by kernel_rfl) hi54 (by kernel_rfl)
      refine hK52 _ _ ?_; try clear hK52 K52
      refine wp_region_lit ?_
      refine seg ha 2 [(0, .slice ao1 a0.length cap1), (3, .bool a3), (4, .bool a4), (10, .slice none 0 0), (11, .string (bstr ([] : List UInt8))), (12, .pointer (some ⟨g8, 0, none⟩)), (13, .int .i64 (IntKind.i64.wrap (x41 - (1 : Int)))), (14, .int .u64 (IntKind.u64.wrap t35)), (15, .int .u64 (IntKind.u64.wrap a2)), (16, .int .u64 (IntKind.u64.wrap ((IntKind.u64.wrap a2) - (1 : Int)))), (55, .int .u64 x40), (56, .int .u64 (IntKind.u64.wrap t35))] (by kernel_rfl) fun a ha => ?_
      obtain ⟨hx57, H⟩ := ite_some H
      refine hop (v := .int .u64 (Int.fdiv x40 (2 ^ (min (Int.toNat (IntKind.u64.wrap t35)) IntKind.u64.bits)))) (w' := w55) ha rfl rfl rfl (shr_run ha (by rfl) (by rfl) hx57 _) fun a ha => ?_
      refine seg ha 1 [(0, .slice ao1 a0.length cap1), (1, .int .u64 (Int.fdiv x40 (2 ^ (min (Int.toNat (IntKind.u64.wrap t35)) IntKind.u64.bits)))), (3, .bool a3), (4, .bool a4), (10, .slice none 0 0), (11, .string (bstr ([] : List UInt8))), (12, .pointer (some ⟨g8, 0, none⟩)), (13, .int .i64 (IntKind.i64.wrap (x41 - (1 : Int)))), (14, .int .u64 (IntKind.u64.wrap t35)), (15, .int .u64 (IntKind.u64.wrap a2)), (16, .int .u64 (IntKind.u64.wrap ((IntKind.u64.wrap a2) - (1 : Int))))] (by kernel_rfl) fun a ha => ?_
      exact ⟨kk, Nat.lt_succ_self _, ⟨Int.fdiv x40 (2 ^ (min (Int.toNat (IntKind.u64.wrap t35)) IntKind.u64.bits)), IntKind.i64.wrap (x41 - (1 : Int)), ((arL 65 x42).set (Int.toNat (IntKind.i64.wrap (x41 - (1 : Int)))) ((([48, 49, 50, 51, 52, 53, 54, 55, 56, 57, 97, 98, 99, 100, 101, 102, 103, 104, 105, 106, 107, 108, 109, 110, 111, 112, 113, 114, 115, 116, 117, 118, 119, 120, 121, 122] : List UInt8).getD (Int.toNat (IntKind.u64.wrap (BitVec.ofInt IntKind.u64.bits x40 &&& BitVec.ofInt IntKind.u64.bits (IntKind.u64.wrap ((IntKind.u64.wrap a2) - (1 : Int)))).toNat)) 0).toNat : Int)), H, (ha.sel (by kernel_rfl)), f1, hBg8, hG, hC, hM⟩⟩
     ·have H := ite_f hc50 H
      refine wp_exit ?_
      simp only [Exit.then, Exit.inBlock, ↓reduceIte, Nat.reduceEqDiff]
      obtain rfl := Option.some.inj H
      exact J39 _ _ (ha.sel (by kernel_rfl)) f1 hBg8 hG hC hM
   ·have H := ite_f hc33 H
    refine wp_seq_k fun K58 hK58 => ?_
    refine wp_region_lit ?_
    refine seg ha 3 [(0, .slice ao1 a0.length cap1), (1, .int .u64 s13), (3, .bool a3), (4, .bool a4), (10, .slice none 0 0), (11, .string (bstr ([] : List UInt8))), (12, .pointer (some ⟨g8, 0, none⟩)), (13, .int .i64 (65 : Int)), (17, .int .u64 (IntKind.u64.wrap a2))] (by kernel_rfl) fun a ha => ?_
    refine hK58 _ _ ?_; try clear hK58 K58
    refine wp_seq_k fun K59 hK59 => ?_
    refine wp_block ?_
    obtain ⟨s60, H60, H⟩ := bind_some H
    have J60 : ∀ (a : Act) (wx60 : World), Has a Tryz.f149.ntmps [(0, .slice ao1 a0.length cap1), (1, .int .u64 s60.1), (3, .bool a3), (4, .bool a4), (10, .slice none 0 0), (11, .string (bstr ([] : List UInt8))), (12, .pointer (some ⟨g8, 0, none⟩)), (13, .int .i64 s60.2.1)] → (RSl (rInt .u8) 5 wx60 ([g8] ++ (M)) ao1 cap1 a0) → (Box wx60 g8 (cA .u8 65 s60.2.2)) → (GF wx60 ([g8] ++ (M))) → (Chg [] w wx60) → (MS ([g8] ++ (M)) wx60) → K59 a wx60 := by
     intro a wx60 ha f1 hBg8 hG hC hM
     refine hK59 _ _ ?_; try clear hK59 K59
     refine wp_seq_k fun K64 hK64 => ?_
     refine wp_region_lit ?_
     refine seg ha 3 [(0, .slice ao1 a0.length cap1), (1, .int .u64 s60.1), (3, .bool a3), (4, .bool a4), (10, .slice none 0 0), (11, .string (bstr ([] : List UInt8))), (12, .pointer (some ⟨g8, 0, none⟩)), (13, .int .i64 (IntKind.i64.wrap (s60.2.1 - (1 : Int))))] (by kernel_rfl) fun a ha => ?_
     refine hK64 _ _ ?_; try clear hK64 K64
     refine wp_region_lit ?_
     refine seg ha 2 [(0, .slice ao1 a0.length cap1), (3, .bool a3), (4, .bool a4), (10, .slice none 0 0), (11, .string (bstr ([] : List UInt8))), (12, .pointer (some ⟨g8, 0, none⟩)), (13, .int .i64 (IntKind.i64.wrap (s60.2.1 - (1 : Int)))), (85, .int .i64 (IntKind.i64.wrap (s60.2.1 - (1 : Int)))), (86, .int .u64 s60.1)] (by kernel_rfl) fun a ha => ?_
     obtain ⟨⟨hx65, hx65'⟩, H⟩ := ite_some H
     refine hop (v := .int .u8 ((([48, 49, 50, 51, 52, 53, 54, 55, 56, 57, 97, 98, 99, 100, 101, 102, 103, 104, 105, 106, 107, 108, 109, 110, 111, 112, 113, 114, 115, 116, 117, 118, 119, 120, 121, 122] : List UInt8).getD (Int.toNat s60.1) 0).toNat : Int)) (w' := wx60) ha rfl rfl rfl (sidx_run (l := ([48, 49, 50, 51, 52, 53, 54, 55, 56, 57, 97, 98, 99, 100, 101, 102, 103, 104, 105, 106, 107, 108, 109, 110, 111, 112, 113, 114, 115, 116, 117, 118, 119, 120, 121, 122] : List UInt8)) (k := .u64) (i := s60.1) ha (by kernel_rfl) (by rfl) (by rfl) hx65 hx65' _) fun a ha => ?_
     obtain ⟨⟨hx66, hx66'⟩, H⟩ := ite_some H
     have hi66 : (Int.toNat (IntKind.i64.wrap (s60.2.1 - (1 : Int)))) < 65 := by omega
     refine hop (v := .pointer (some ⟨g8, 0 + (Int.toNat (IntKind.i64.wrap (s60.2.1 - (1 : Int)))), none⟩)) (w' := wx60) ha rfl rfl rfl (ixA_run (T := 5) (N := 65) (g := g8) (o' := 0) (k := .i64) (i := IntKind.i64.wrap (s60.2.1 - (1 : Int))) ha (by kernel_rfl) (by kernel_rfl) (by rfl) (by rfl) hx66 hx66' _) fun a ha => ?_
     refine st (o' := 0 + (Int.toNat (IntKind.i64.wrap (s60.2.1 - (1 : Int))))) ha rfl rfl rfl (by kernel_rfl) rfl rfl hBg8 (arr_lt (k := .u8) (m := 65) (x := s60.2.2) ([] : List Value) ([] : List Value) (by kernel_rfl) hi66) fun a w67 ha hb2 hc68 _ => ?_
     have o1 : Ok [g8] ([g8] ++ (M)) wx60.heap.size := (fun _ h => .inl (ml h))
     have o2 : Ok ([g8] ++ (M)) ([g8] ++ (M)) wx60.heap.size := (Ok.refl _ _)
     have hG := hG.chg hc68 o1 o2
     have f1 := f1.chg hc68 o1 o2
     have hM : MS ([g8] ++ (M)) w67 := (hM.chg hc68)
     have hC := hC.trans hc68 (fun x h => .inr (e_i10 x h))
     have hBg8 : Box w67 g8 (cA .u8 65 ((arL 65 s60.2.2).set (Int.toNat (IntKind.i64.wrap (s60.2.1 - (1 : Int)))) ((([48, 49, 50, 51, 52, 53, 54, 55, 56, 57, 97, 98, 99, 100, 101, 102, 103, 104, 105, 106, 107, 108, 109, 110, 111, 112, 113, 114, 115, 116, 117, 118, 119, 120, 121, 122] : List UInt8).getD (Int.toNat s60.1) 0).toNat : Int))) := Box.setA (k := .u8) (m := 65) (x := s60.2.2) ([] : List Value) ([] : List Value) hb2 (by kernel_rfl) hi66 (by kernel_rfl)
     obtain rfl := Option.some.inj H
     exact J15 _ _ (ha.sel (by kernel_rfl)) f1 hBg8 hG hC hM
    have Hc60 := H
    have H := H60
    refine wp_loop_ghost (fun kk a w60 => ∃ (x61 : Int) (x62 : Int) (x63 : List Int), strconv_formatBits.l1 a2 kk x61 x62 x63 = some s60 ∧ Has a Tryz.f149.ntmps [(0, .slice ao1 a0.length cap1), (1, .int .u64 x61), (3, .bool a3), (4, .bool a4), (10, .slice none 0 0), (11, .string (bstr ([] : List UInt8))), (12, .pointer (some ⟨g8, 0, none⟩)), (13, .int .i64 x62), (17, .int .u64 (IntKind.u64.wrap a2))] ∧ (RSl (rInt .u8) 5 w60 ([g8] ++ (M)) ao1 cap1 a0) ∧ (Box w60 g8 (cA .u8 65 x63)) ∧ (GF w60 ([g8] ++ (M))) ∧ (Chg [] w w60) ∧ (MS ([g8] ++ (M)) w60)) k ?_ ?_
    ·skip
     exact ⟨s13, (65 : Int), (List.replicate 65 (0 : Int)), H, (ha.sel (by kernel_rfl)), f1, hBg8, hG, hC, hM⟩
    ·rintro kk a w60 ⟨x61, x62, x63, H, ha, f1, hBg8, hG, hC, hM⟩
     obtain _ | kk := kk
     ·exact nomatch (show none = some _ from H)
     rw [strconv_formatBits.l1] at H
     refine wp_seq_k fun K69 hK69 => ?_
     refine wp_seq_k fun K70 hK70 => ?_
     refine wp_region_lit ?_
     refine seg ha 3 [(0, .slice ao1 a0.length cap1), (1, .int .u64 x61), (3, .bool a3), (4, .bool a4), (10, .slice none 0 0), (11, .string (bstr ([] : List UInt8))), (12, .pointer (some ⟨g8, 0, none⟩)), (13, .int .i64 x62), (17, .int .u64 (IntKind.u64.wrap a2)), (68, .bool (decide (x61 ≥ (IntKind.u64.wrap a2))))] (by kernel_rfl) fun a ha => ?_
     refine hK70 _ _ ?_; try clear hK70 K70
     refine cnd ha rfl (fun hc71 => ?_) (fun hc71 => ?_)
     ·have H := ite_t hc71 H
      refine wp_skip ?_
      refine hK69 _ _ ?_; try clear hK69 K69
      refine wp_block ?_
      refine wp_seq_k fun K72 hK72 => ?_
      refine wp_region_lit ?_
      refine seg ha 3 [(0, .slice ao1 a0.length cap1), (1, .int .u64 x61), (3, .bool a3), (4, .bool a4), (10, .slice none 0 0), (11, .string (bstr ([] : List UInt8))), (12, .pointer (some ⟨g8, 0, none⟩)), (13, .int .i64 (IntKind.i64.wrap (x62 - (1 : Int)))), (17, .int .u64 (IntKind.u64.wrap a2))] (by kernel_rfl) fun a ha => ?_
      refine hK72 _ _ ?_; try clear hK72 K72
      refine wp_seq_k fun K73 hK73 => ?_
      refine wp_region_lit ?_
      refine seg ha 2 [(0, .slice ao1 a0.length cap1), (1, .int .u64 x61), (3, .bool a3), (4, .bool a4), (10, .slice none 0 0), (11, .string (bstr ([] : List UInt8))), (12, .pointer (some ⟨g8, 0, none⟩)), (13, .int .i64 (IntKind.i64.wrap (x62 - (1 : Int)))), (17, .int .u64 (IntKind.u64.wrap a2)), (71, .int .u64 x61), (72, .int .u64 (IntKind.u64.wrap a2))] (by kernel_rfl) fun a ha => ?_
      obtain ⟨hx74, H⟩ := ite_some H
      refine hop (v := .int .u64 (IntKind.u64.wrap (Int.tdiv x61 (IntKind.u64.wrap a2)))) (w' := w60) ha rfl rfl rfl (quo_run ha (by rfl) (by rfl) hx74 _) fun a ha => ?_
      refine seg ha 1 [(0, .slice ao1 a0.length cap1), (1, .int .u64 x61), (3, .bool a3), (4, .bool a4), (10, .slice none 0 0), (11, .string (bstr ([] : List UInt8))), (12, .pointer (some ⟨g8, 0, none⟩)), (13, .int .i64 (IntKind.i64.wrap (x62 - (1 : Int)))), (17, .int .u64 (IntKind.u64.wrap a2)), (18, .int .u64 (IntKind.u64.wrap (Int.tdiv x61 (IntKind.u64.wrap a2))))] (by kernel_rfl) fun a ha => ?_
      refine hK73 _ _ ?_; try clear hK73 K73
      refine wp_seq_k fun K75 hK75 => ?_
      refine wp_region_lit ?_
      refine seg ha 6 [(0, .slice ao1 a0.length cap1), (3, .bool a3), (4, .bool a4), (10, .slice none 0 0), (11, .string (bstr ([] : List UInt8))), (12, .pointer (some ⟨g8, 0, none⟩)), (13, .int .i64 (IntKind.i64.wrap (x62 - (1 : Int)))), (17, .int .u64 (IntKind.u64.wrap a2)), (18, .int .u64 (IntKind.u64.wrap (Int.tdiv x61 (IntKind.u64.wrap a2)))), (74, .int .i64 (IntKind.i64.wrap (x62 - (1 : Int)))), (79, .int .u64 (IntKind.u64.wrap (x61 - (IntKind.u64.wrap ((IntKind.u64.wrap (Int.tdiv x61 (IntKind.u64.wrap a2))) * (IntKind.u64.wrap a2))))))] (by kernel_rfl) fun a ha => ?_
      obtain ⟨⟨hx76, hx76'⟩, H⟩ := ite_some H
      refine hop (v := .int .u8 ((([48, 49, 50, 51, 52, 53, 54, 55, 56, 57, 97, 98, 99, 100, 101, 102, 103, 104, 105, 106, 107, 108, 109, 110, 111, 112, 113, 114, 115, 116, 117, 118, 119, 120, 121, 122] : List UInt8).getD (Int.toNat (IntKind.u64.wrap (x61 - (IntKind.u64.wrap ((IntKind.u64.wrap (Int.tdiv x61 (IntKind.u64.wrap a2))) * (IntKind.u64.wrap a2)))))) 0).toNat : Int)) (w' := w60) ha rfl rfl rfl (sidx_run (l := ([48, 49, 50, 51, 52, 53, 54, 55, 56, 57, 97, 98, 99, 100, 101, 102, 103, 104, 105, 106, 107, 108, 109, 110, 111, 112, 113, 114, 115, 116, 117, 118, 119, 120, 121, 122] : List UInt8)) (k := .u64) (i := IntKind.u64.wrap (x61 - (IntKind.u64.wrap ((IntKind.u64.wrap (Int.tdiv x61 (IntKind.u64.wrap a2))) * (IntKind.u64.wrap a2))))) ha (by kernel_rfl) (by rfl) (by rfl) hx76 hx76' _) fun a ha => ?_
      obtain ⟨⟨hx77, hx77'⟩, H⟩ := ite_some H
      have hi77 : (Int.toNat (IntKind.i64.wrap (x62 - (1 : Int)))) < 65 := by omega
      refine hop (v := .pointer (some ⟨g8, 0 + (Int.toNat (IntKind.i64.wrap (x62 - (1 : Int)))), none⟩)) (w' := w60) ha rfl rfl rfl (ixA_run (T := 5) (N := 65) (g := g8) (o' := 0) (k := .i64) (i := IntKind.i64.wrap (x62 - (1 : Int))) ha (by kernel_rfl) (by kernel_rfl) (by rfl) (by rfl) hx77 hx77' _) fun a ha => ?_
      refine st (o' := 0 + (Int.toNat (IntKind.i64.wrap (x62 - (1 : Int))))) ha rfl rfl rfl (by kernel_rfl) rfl rfl hBg8 (arr_lt (k := .u8) (m := 65) (x := x63) ([] : List Value) ([] : List Value) (by kernel_rfl) hi77) fun a w78 ha hb2 hc79 _ => ?_
      have o1 : Ok [g8] ([g8] ++ (M)) w60.heap.size := (fun _ h => .inl (ml h))
      have o2 : Ok ([g8] ++ (M)) ([g8] ++ (M)) w60.heap.size := (Ok.refl _ _)
      have hG := hG.chg hc79 o1 o2
      have f1 := f1.chg hc79 o1 o2
      have hM : MS ([g8] ++ (M)) w78 := (hM.chg hc79)
      have hC := hC.trans hc79 (fun x h => .inr (e_i10 x h))
      have hBg8 : Box w78 g8 (cA .u8 65 ((arL 65 x63).set (Int.toNat (IntKind.i64.wrap (x62 - (1 : Int)))) ((([48, 49, 50, 51, 52, 53, 54, 55, 56, 57, 97, 98, 99, 100, 101, 102, 103, 104, 105, 106, 107, 108, 109, 110, 111, 112, 113, 114, 115, 116, 117, 118, 119, 120, 121, 122] : List UInt8).getD (Int.toNat (IntKind.u64.wrap (x61 - (IntKind.u64.wrap ((IntKind.u64.wrap (Int.tdiv x61 (IntKind.u64.wrap a2))) * (IntKind.u64.wrap a2)))))) 0).toNat : Int))) := Box.setA (k := .u8) (m := 65) (x := x63) ([] : List Value) ([] : List Value) hb2 (by kernel_rfl) hi77 (by kernel_rfl)
      refine hK75 _ _ ?_; try clear hK75 K75
      refine wp_region_lit ?_
      refine seg ha 2 [(0, .slice ao1 a0.length cap1), (1, .int .u64 (IntKind.u64.wrap (Int.tdiv x61 (IntKind.u64.wrap a2)))), (3, .bool a3), (4, .bool a4), (10, .slice none 0 0), (11, .string (bstr ([] : List UInt8))), (12, .pointer (some ⟨g8, 0, none⟩)), (13, .int .i64 (IntKind.i64.wrap (x62 - (1 : Int)))), (17, .int .u64 (IntKind.u64.wrap a2))] (by kernel_rfl) fun a ha => ?_
      exact ⟨kk, Nat.lt_succ_self _, ⟨IntKind.u64.wrap (Int.tdiv x61 (IntKind.u64.wrap a2)), IntKind.i64.wrap (x62 - (1 : Int)), ((arL 65 x63).set (Int.toNat (IntKind.i64.wrap (x62 - (1 : Int)))) ((([48, 49, 50, 51, 52, 53, 54, 55, 56, 57, 97, 98, 99, 100, 101, 102, 103, 104, 105, 106, 107, 108, 109, 110, 111, 112, 113, 114, 115, 116, 117, 118, 119, 120, 121, 122] : List UInt8).getD (Int.toNat (IntKind.u64.wrap (x61 - (IntKind.u64.wrap ((IntKind.u64.wrap (Int.tdiv x61 (IntKind.u64.wrap a2))) * (IntKind.u64.wrap a2)))))) 0).toNat : Int)), H, (ha.sel (by kernel_rfl)), f1, hBg8, hG, hC, hM⟩⟩
     ·have H := ite_f hc71 H
      refine wp_exit ?_
      simp only [Exit.then, Exit.inBlock, ↓reduceIte, Nat.reduceEqDiff]
      obtain rfl := Option.some.inj H
      exact J60 _ _ (ha.sel (by kernel_rfl)) f1 hBg8 hG hC hM
  have H := H13
  refine wp_seq_k fun K80 hK80 => ?_
  refine wp_region_lit ?_
  refine seg ha 1 [(0, .slice ao1 a0.length cap1), (1, .int .u64 a1), (2, .int .i64 a2), (3, .bool a3), (4, .bool a4), (10, .slice none 0 0), (11, .string (bstr ([] : List UInt8))), (12, .pointer (some ⟨g8, 0, none⟩)), (13, .int .i64 (65 : Int)), (30, .bool a3)] (by kernel_rfl) fun a ha => ?_
  refine hK80 _ _ ?_; try clear hK80 K80
  refine cnd ha rfl (fun hc81 => ?_) (fun hc81 => ?_)
  ·have H := ite_t hc81 H
   refine wp_region_lit ?_
   refine seg ha 3 [(0, .slice ao1 a0.length cap1), (1, .int .u64 (IntKind.u64.wrap (0 - a1))), (2, .int .i64 a2), (3, .bool a3), (4, .bool a4), (10, .slice none 0 0), (11, .string (bstr ([] : List UInt8))), (12, .pointer (some ⟨g8, 0, none⟩)), (13, .int .i64 (65 : Int))] (by kernel_rfl) fun a ha => ?_
   obtain rfl := Option.some.inj H
   exact J13 _ _ (ha.sel (by kernel_rfl)) f1 hBg8 hG hC hM
  ·have H := ite_f hc81 H
   refine wp_skip ?_
   obtain rfl := Option.some.inj H
   exact J13 _ _ (ha.sel (by kernel_rfl)) f1 hBg8 hG hC hM
end Go.E
