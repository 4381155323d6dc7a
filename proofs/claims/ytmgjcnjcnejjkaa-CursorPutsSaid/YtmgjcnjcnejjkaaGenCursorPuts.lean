/- What the functions that the law reaches compute, and the walks that show it. -/
import Derived.Test.YtmgjcnjcnejjkaaEngL
import Derived.Test.YtmgjcnjcnejjkaaProg
set_option linter.unusedVariables false
set_option linter.unusedSimpArgs false
namespace Go.E
open Go.RowKit Go.Proofs
structure S_cursor_rest where
  left : List Int
  bad : Bool
  deriving DecidableEq, Inhabited
def cS_cursor_rest (x : S_cursor_rest) (ao1 : Option Addr) (cap1 : Nat) : List Value := ([.slice ao1 x.left.length cap1] : List Value) ++ (([.bool x.bad] : List Value))
def rS_cursor_rest : Rep S_cursor_rest := rIso (fun x : S_cursor_rest => (x.left, x.bad)) (rPair (rSl 5 (rInt .u8)) rBool)
theorem rS_cursor_rest.open {w : World} {M : List Nat} {cs : List Value} {x : S_cursor_rest} (h : rS_cursor_rest.R w M cs x) : ∃ (ao1 : Option Addr) (cap1 : Nat), cs = cS_cursor_rest x ao1 cap1 ∧ RSl (rInt .u8) 5 w M ao1 cap1 x.left := by
  obtain ⟨c0, k0, e0, h0, h1⟩ := h
  obtain ⟨ao1, cap1, rfl, f1⟩ := h0
  obtain rfl := h1
  subst e0
  exact ⟨ao1, cap1, rfl, f1⟩
theorem rS_cursor_rest.mk {w : World} {M : List Nat} (x : S_cursor_rest) {ao1 : Option Addr} {cap1 : Nat} (f1 : RSl (rInt .u8) 5 w M ao1 cap1 x.left) : rS_cursor_rest.R w M (cS_cursor_rest x ao1 cap1) x := ⟨_, _, rfl, ⟨ao1, cap1, rfl, f1⟩, rfl⟩
def okS_cursor_rest (x : S_cursor_rest) : Prop := (okL 1 (okI .u8)) x.left ∧ okB x.bad
structure S_cursor_Reader where
  rest : S_cursor_rest
  deriving DecidableEq, Inhabited
def cS_cursor_Reader (x : S_cursor_Reader) (ao1 : Option Addr) (cap1 : Nat) : List Value := cS_cursor_rest x.rest ao1 cap1
def rS_cursor_Reader : Rep S_cursor_Reader := rIso (fun x : S_cursor_Reader => x.rest) rS_cursor_rest
theorem rS_cursor_Reader.open {w : World} {M : List Nat} {cs : List Value} {x : S_cursor_Reader} (h : rS_cursor_Reader.R w M cs x) : ∃ (ao1 : Option Addr) (cap1 : Nat), cs = cS_cursor_Reader x ao1 cap1 ∧ RSl (rInt .u8) 5 w M ao1 cap1 x.rest.left := by
  have h0 := h
  have h0 := rS_cursor_rest.open h0
  obtain ⟨ao1, cap1, rfl, f1⟩ := h0
  exact ⟨ao1, cap1, rfl, f1⟩
theorem rS_cursor_Reader.mk {w : World} {M : List Nat} (x : S_cursor_Reader) {ao1 : Option Addr} {cap1 : Nat} (f1 : RSl (rInt .u8) 5 w M ao1 cap1 x.rest.left) : rS_cursor_Reader.R w M (cS_cursor_Reader x ao1 cap1) x := (rS_cursor_rest.mk x.rest f1)
def okS_cursor_Reader (x : S_cursor_Reader) : Prop := (okS_cursor_rest) x.rest

def bytes_Clone.f (a0 : List Int) : Option (List Int) := if a0.length ≤ 140737488355328 then some a0 else none
theorem bytes_Clone.walk (w : World) (M : List Nat) (hM : MS M w) (a0 : List Int) (ao1 : Option Addr) (cap1 : Nat) (f1 : RSl (rInt .u8) 5 w M ao1 cap1 a0) (r : List Int) (H : bytes_Clone.f a0 = some r) :
    To Try.prog 46 [.slice ao1 a0.length cap1] w fun v w' => ∃ (ao2 : Option Addr) (cap2 : Nat), v = .slice ao2 r.length cap2 ∧ (Own (rInt .u8) 5 w' (blkL ao2 ++ M) ao2 cap2 r) ∧ (∀ x ∈ blkL ao2, w.heap.size ≤ x) ∧ Chg [] w w' ∧ MS (blkL ao2 ++ M) w' := by
  unfold bytes_Clone.f at H
  obtain ⟨hb, H⟩ := ite_some H
  obtain rfl := Option.some.inj H
  refine ent Try.func46 rfl [(0, .slice ao1 a0.length cap1)] rfl rfl fun a ha => ?_
  refine wp_seq_k fun K hK => ?_
  refine wp_region_lit ?_
  refine seg ha 1 [(0, .slice ao1 a0.length cap1)] (by kernel_rfl) fun a ha => ?_
  refine hK _ _ ?_; clear hK K
  refine wp_seq_k fun K hK => ?_
  refine wp_seq_k fun K2 hK2 => ?_
  refine wp_region_lit ?_
  refine seg ha 2 [(0, .slice ao1 a0.length cap1), (4, .bool ao1.isNone)] (by kernel_rfl) fun a ha => ?_
  refine hK2 _ _ ?_; clear hK2 K2
  refine cnd ha rfl (fun hc => ?_) (fun hc => ?_)
  · refine wp_seq_k fun K2 hK2 => ?_
    refine wp_region_lit ?_
    refine seg ha 1 [(2, .slice none 0 0)] (by kernel_rfl) fun a ha => ?_
    refine hK2 _ _ ?_; clear hK2 K2
    refine wp_ret ?_
    have hx : a0 = [] := by
      rcases f1 with ⟨_, _, h | ⟨g, o, cur, fr, e, _⟩⟩
      · exact h
      · subst e; simp at hc
    simp only [Exit.then]
    refine rt1 ha rfl rfl ?_
    exact ⟨none, 0, by rw [hx]; rfl, by rw [hx]; exact Own.nil, (fun _ h => nomatch h), Chg.refl _ _, hM⟩
  · refine wp_skip ?_
    refine hK _ _ ?_; clear hK K
    refine wp_seq_k fun K hK => ?_
    refine wp_region_lit ?_
    refine bsl (vals := []) (T := 5) ha rfl [] (fun w => by kernel_rfl) rfl rfl rfl fun a w1 g hN ha => ?_
    refine seg ha 1 [(0, .slice ao1 a0.length cap1), (5, .slice (some ⟨g, 0, none⟩) 0 0), (6, .slice ao1 a0.length cap1)] (by kernel_rfl) fun a ha => ?_
    have hO : Own (rInt .u8) 5 w1 ([g] ++ M) (some ⟨g, 0, none⟩) 0 [] := hN.own rfl (Nat.zero_le _)
    have h1 : RSl (rInt .u8) 5 w1 ([g] ++ M) ao1 cap1 a0 := f1.chg hN.chg (Ok.nil _ _) (Ok.app (hN.ok _) (Ok.refl _ _))
    refine app (r := rInt .u8) (xs := []) ha (ElemT.mk' (bytes := 1) (by kernel_rfl)) rfl rfl rfl rfl rfl hO h1.src (by simpa using hb) (by decide) fun a w2 ao2 cap2 hO2 hc2 hok hlt ha => ?_
    refine seg ha 1 [(2, .slice ao2 ([] ++ a0).length cap2)] (by kernel_rfl) fun a ha => ?_
    refine hK _ _ ?_; clear hK K
    refine wp_ret ?_
    refine rt1 ha rfl rfl ⟨ao2, cap2, rfl, ?_, ?_, ?_, ?_⟩
    · exact hO2.chg (Chg.refl [] _) (Ok.nil _ _) (Ok.app (fun g hg => .inl (ml hg)) (fun g hg => .inl (mr (mr hg)))) (fun _ _ hh => nomatch hh) (fun g hg => ml hg)
    · intro x hx
      rcases hok x hx with h | h
      · simp [blkL] at h; subst h; exact hN.ge
      · exact Nat.le_trans hN.chg.size h
    · exact hN.chg.trans hc2 (Ok.one (.inr hN.ge))
    · exact MS.app hlt ((hM.chg hN.chg).chg hc2)

def cursor_Open.f (a0 : List Int) : Option (S_cursor_Reader) := (bytes_Clone.f a0).bind fun t4 => some (((⟨(⟨t4, false⟩ : S_cursor_rest)⟩ : S_cursor_Reader) : S_cursor_Reader))
set_option maxRecDepth 100000 in
theorem cursor_Open.walk (w : World) (M : List Nat) (hM : MS M w) (a0 : List Int) (ao1 : Option Addr) (cap1 : Nat) (f1 : RSl (rInt .u8) 5 w M ao1 cap1 a0) (r : S_cursor_Reader) (H : cursor_Open.f a0 = some r) :
    To Try.prog 21 [.slice ao1 a0.length cap1] w fun v w' => ∃ (g10 : Nat) (ao12 : Option Addr) (cap12 : Nat), v = .pointer (some ⟨g10, 0, none⟩) ∧ (RSl (rInt .u8) 5 w' ([g10] ++ (M)) ao12 cap12 r.rest.left) ∧ (Box w' g10 (cS_cursor_Reader r ao12 cap12)) ∧ (∀ x ∈ [g10], w.heap.size ≤ x) ∧ Chg [] w w' ∧ MS ([g10] ++ (M)) w' := by
  unfold cursor_Open.f at H
  refine ent Try.func21 rfl [(0, .slice ao1 a0.length cap1)] rfl (by rfl) fun a ha => ?_
  have hC : Chg [] w w := Chg.refl _ _
  refine wp_seq_k fun K2 hK2 => ?_
  refine wp_region_lit ?_
  refine seg ha 1 [(0, .slice ao1 a0.length cap1)] (by kernel_rfl) fun a ha => ?_
  refine hK2 _ _ ?_; clear hK2 K2
  refine wp_seq_k fun K3 hK3 => ?_
  refine wp_region_lit ?_
  refine seg ha 1 [(3, .slice ao1 a0.length cap1)] (by kernel_rfl) fun a ha => ?_
  obtain ⟨t4, H4, H⟩ := bind_some H
  refine cl ha (by rfl) (by kernel_rfl) (by rfl) (by rfl) (by rfl) (bytes_Clone.walk w _ hM a0 ao1 cap1 f1 _ H4) ?_
  rintro _ w4 ⟨ao5, cap5, rfl, f5, ne_i5, hc4, hMn⟩ a ha
  have o1 : Ok [] (M) w.heap.size := Ok.nil _ _
  have o2 : Ok (blkL ao5 ++ (M)) (M) w.heap.size := (Ok.app (fun x h => .inr (ne_i5 x h)) (fun _ h => .inl (h)))
  have f1 := f1.chg hc4 o1 o2
  have nw : Ok (blkL ao5) (M) w.heap.size := (fun x h => .inr (ne_i5 x h))
  have p_i5_M : ∀ x ∈ blkL ao5, x ∉ M := fun x hx hy => absurd (hM x (hy)) (Nat.not_lt.2 (ne_i5 x hx))
  have e_i5 : ∀ x ∈ blkL ao5, w.heap.size ≤ x := fun x hx => Nat.le_trans hC.size (ne_i5 x hx)
  have hM : MS (blkL ao5 ++ (M)) w4 := (MS.app (fun x h => hMn x (ml h)) (fun x h => hM.chg hc4 x (h)))
  have hC := hC.trans hc4 (Ok.nil _ _)
  refine opk (v := .agg (cS_cursor_rest (⟨t4, false⟩ : S_cursor_rest) ao5 cap5).toArray) ha rfl rfl rfl rfl rfl (fun w => by kernel_rfl) fun a ha => ?_
  refine opk (v := .agg (cS_cursor_Reader (⟨(⟨t4, false⟩ : S_cursor_rest)⟩ : S_cursor_Reader) ao5 cap5).toArray) ha rfl rfl rfl rfl rfl (fun w => by kernel_rfl) fun a ha => ?_
  have fz := f5.toRSl (M' := M) (fun _ h => .inl (mr (h))) (fun x hx hm => p_i5_M x hx hm)
  have o1 : Ok [] (blkL ao5 ++ (M)) w4.heap.size := Ok.nil _ _
  have o2 : Ok (M) (blkL ao5 ++ (M)) w4.heap.size := (fun _ h => .inl (mr (h)))
  have hM : MS (M) w4 := (fun x h => hM.chg (Chg.refl [] _) x (mr (h)))
  have hC := hC.trans (Chg.refl [] _) (Ok.nil _ _)
  have f5 := fz
  refine bx (cs := (cS_cursor_Reader (⟨(⟨t4, false⟩ : S_cursor_rest)⟩ : S_cursor_Reader) ao5 cap5)) ha rfl rfl rfl rfl rfl fun a w6 g7 hN8 ha => ?_
  have o1 : Ok [] (M) w4.heap.size := Ok.nil _ _
  have o2 : Ok ([g7] ++ (M)) (M) w4.heap.size := (Ok.app (hN8.ok _) (fun _ h => .inl (h)))
  have f5 := f5.chg hN8.chg o1 o2
  have nw : Ok ([g7]) (M) w4.heap.size := (hN8.ok _)
  have p_i9_M : ∀ x ∈ [g7], x ∉ M := fun x hx hy => absurd (hM x (hy)) (Nat.not_lt.2 ((hN8.ge1) x hx))
  have e_i9 : ∀ x ∈ [g7], w.heap.size ≤ x := fun x hx => Nat.le_trans hC.size ((hN8.ge1) x hx)
  have hM : MS ([g7] ++ (M)) w6 := (MS.app hN8.ms (fun x h => hM.chg hN8.chg x (h)))
  have hC := hC.trans hN8.chg (Ok.nil _ _)
  have hBg7 : Box w6 g7 (cS_cursor_Reader (⟨(⟨t4, false⟩ : S_cursor_rest)⟩ : S_cursor_Reader) ao5 cap5) := hN8.box
  refine seg ha 1 [(2, .pointer (some ⟨g7, 0, none⟩))] (by kernel_rfl) fun a ha => ?_
  refine hK3 _ _ ?_; clear hK3 K3
  refine wp_ret ?_
  try simp only [Exit.then, Exit.inBlock]
  obtain rfl := Option.some.inj H
  refine rt1 ha rfl rfl ?_
  exact ⟨g7, ao5, cap5, rfl, f5, hBg7, e_i9, hC, hM⟩
def cursor_rest_next.f (a0 : S_cursor_rest) (a1 : Int) : Option (List Int × S_cursor_rest) := ((if a0.bad = true then some (true : Bool) else (if (decide (a1 < (0 : Int))) = true then some (true : Bool) else some (decide (a1 > (a0.left.length : Int)) : Bool)))).bind fun s5 => (if s5 = true then some ((([] : List Int) : List Int), ((⟨a0.left, true⟩ : S_cursor_rest) : S_cursor_rest)) else (if 0 ≤ (0 : Int) ∧ (0 : Int) ≤ a1 ∧ a1 ≤ (a0.left.length : Int) then (if 0 ≤ a1 ∧ a1 ≤ (a0.left.length : Int) ∧ (a0.left.length : Int) ≤ (a0.left.length : Int) then some ((((a0.left.take (Int.toNat a1)).drop (Int.toNat (0 : Int))) : List Int), ((⟨((a0.left.take (Int.toNat (a0.left.length : Int))).drop (Int.toNat a1)), a0.bad⟩ : S_cursor_rest) : S_cursor_rest)) else none) else none))
set_option maxRecDepth 100000 in
theorem cursor_rest_next.walk (w : World) (M : List Nat) (hM : MS M w) (gp0 : Nat) (a0 : S_cursor_rest) (ao1 : Option Addr) (cap1 : Nat) (f1 : RSl (rInt .u8) 5 w M ao1 cap1 a0.left) (hBgp0 : Box w gp0 (cS_cursor_rest a0 ao1 cap1)) (hg_gp0 : gp0 ∈ M) (a1 : Int) (r : List Int × S_cursor_rest) (H : cursor_rest_next.f a0 a1 = some r) :
    To Try.prog 49 [.pointer (some ⟨gp0, 0, none⟩), .int .i64 a1] w fun v w' => ∃ (ao22 : Option Addr) (cap22 : Nat) (ao23 : Option Addr) (cap23 : Nat), v = .slice ao22 r.1.length cap22 ∧ (RSl (rInt .u8) 5 w' (M) ao22 cap22 r.1) ∧ (RSl (rInt .u8) 5 w' (M) ao23 cap23 r.2.left) ∧ (Box w' gp0 (cS_cursor_rest r.2 ao23 cap23)) ∧ Chg [gp0] w w' ∧ MS (M) w' := by
  unfold cursor_rest_next.f at H
  refine ent Try.func49 rfl [(0, .pointer (some ⟨gp0, 0, none⟩)), (1, .int .i64 a1)] rfl (by rfl) fun a ha => ?_
  have hC : Chg [gp0] w w := Chg.refl _ _
  refine wp_seq_k fun K2 hK2 => ?_
  refine wp_region_lit ?_
  refine seg ha 1 [(0, .pointer (some ⟨gp0, 0, none⟩)), (1, .int .i64 a1)] (by kernel_rfl) fun a ha => ?_
  refine hK2 _ _ ?_; clear hK2 K2
  refine wp_seq_k fun K3 hK3 => ?_
  refine wp_seq_k fun K4 hK4 => ?_
  refine wp_region_lit ?_
  obtain ⟨s5, H5, H⟩ := bind_some H
  have J5 : ∀ (a : Act) (w5 : World), Has a Try.f49.ntmps [(0, .pointer (some ⟨gp0, 0, none⟩)), (1, .int .i64 a1), (22, .bool s5)] → (RSl (rInt .u8) 5 w5 (M) ao1 cap1 a0.left) → (Box w5 gp0 (cS_cursor_rest a0 ao1 cap1)) → (Chg [gp0] w w5) → (MS (M) w5) → K4 a w5 := by
    intro a w5 ha f1 hBgp0 hC hM
    refine hK4 _ _ ?_; clear hK4 K4
    refine cnd ha rfl (fun hc6 => ?_) (fun hc6 => ?_)
    · have H := ite_t hc6 H
      refine wp_seq_k fun K7 hK7 => ?_
      refine wp_region_lit ?_
      refine seg ha 3 [(25, .pointer (some ⟨gp0, 1, none⟩))] (by kernel_rfl) fun a ha => ?_
      refine st ha rfl rfl rfl (by kernel_rfl) rfl rfl hBgp0 (Nat.le_of_ble_eq_true (by kernel_rfl)) fun a w8 ha hb2 hc9 _ => ?_
      have o1 : Ok [gp0] (M) w5.heap.size := Ok.one (.inl (hg_gp0))
      have o2 : Ok (M) (M) w5.heap.size := (fun _ h => .inl (h))
      have f1 := f1.chg hc9 o1 o2
      have hM : MS (M) w8 := (fun x h => hM.chg hc9 x (h))
      have hC := hC.trans hc9 (Ok.one (.inl (by simp)))
      have hBgp0 : Box w8 gp0 (cS_cursor_rest (⟨a0.left, true⟩ : S_cursor_rest) ao1 cap1) := hb2
      refine hK7 _ _ ?_; clear hK7 K7
      refine wp_seq_k fun K10 hK10 => ?_
      refine wp_region_lit ?_
      refine seg ha 1 [(4, .slice none 0 0)] (by kernel_rfl) fun a ha => ?_
      refine hK10 _ _ ?_; clear hK10 K10
      refine wp_ret ?_
      try simp only [Exit.then, Exit.inBlock]
      obtain rfl := Option.some.inj H
      refine rt1 ha rfl rfl ?_
      exact ⟨none, 0, ao1, cap1, rfl, (RSl.nil (Nat.zero_le _)), f1, hBgp0, hC, hM⟩
    · have H := ite_f hc6 H
      refine wp_skip ?_
      refine hK3 _ _ ?_; clear hK3 K3
      refine wp_seq_k fun K11 hK11 => ?_
      refine wp_region_lit ?_
      refine seg ha 3 [(0, .pointer (some ⟨gp0, 0, none⟩)), (1, .int .i64 a1), (28, .pointer (some ⟨gp0, 0, none⟩))] (by kernel_rfl) fun a ha => ?_
      refine ld (v := .slice ao1 a0.left.length cap1) ha rfl (by kernel_rfl) rfl rfl rfl (hBgp0.cell' (o := 0) rfl (by kernel_rfl)) fun a ha => ?_
      refine seg ha 1 [(0, .pointer (some ⟨gp0, 0, none⟩)), (1, .int .i64 a1), (29, .slice ao1 a0.left.length cap1), (30, .int .i64 a1)] (by kernel_rfl) fun a ha => ?_
      obtain ⟨⟨hx12, hx12', hx12''⟩, H⟩ := ite_some H
      refine slc (r := (rInt .u8)) (l := (0 : Int)) (h := a1) ha (by kernel_rfl) (by kernel_rfl) rfl rfl rfl rfl rfl rfl f1 hx12 hx12' hx12'' fun a ao13 cap13 f13 ha => ?_
      refine seg ha 1 [(0, .pointer (some ⟨gp0, 0, none⟩)), (1, .int .i64 a1), (5, .slice ao13 ((a0.left.take (Int.toNat a1)).drop (Int.toNat (0 : Int))).length cap13)] (by kernel_rfl) fun a ha => ?_
      refine hK11 _ _ ?_; clear hK11 K11
      refine wp_seq_k fun K14 hK14 => ?_
      refine wp_region_lit ?_
      refine seg ha 4 [(1, .int .i64 a1), (5, .slice ao13 ((a0.left.take (Int.toNat a1)).drop (Int.toNat (0 : Int))).length cap13), (32, .pointer (some ⟨gp0, 0, none⟩)), (35, .pointer (some ⟨gp0, 0, none⟩))] (by kernel_rfl) fun a ha => ?_
      refine ld (v := .slice ao1 a0.left.length cap1) ha rfl (by kernel_rfl) rfl rfl rfl (hBgp0.cell' (o := 0) rfl (by kernel_rfl)) fun a ha => ?_
      refine seg ha 1 [(5, .slice ao13 ((a0.left.take (Int.toNat a1)).drop (Int.toNat (0 : Int))).length cap13), (32, .pointer (some ⟨gp0, 0, none⟩)), (36, .slice ao1 a0.left.length cap1), (37, .int .i64 a1)] (by kernel_rfl) fun a ha => ?_
      obtain ⟨⟨hx15, hx15', hx15''⟩, H⟩ := ite_some H
      refine slc (r := (rInt .u8)) (l := a1) (h := (a0.left.length : Int)) ha (by kernel_rfl) (by kernel_rfl) rfl rfl rfl rfl rfl rfl f1 hx15 hx15' hx15'' fun a ao16 cap16 f16 ha => ?_
      refine seg ha 2 [(5, .slice ao13 ((a0.left.take (Int.toNat a1)).drop (Int.toNat (0 : Int))).length cap13), (38, .slice ao16 ((a0.left.take (Int.toNat (a0.left.length : Int))).drop (Int.toNat a1)).length cap16), (40, .pointer (some ⟨gp0, 0, none⟩))] (by kernel_rfl) fun a ha => ?_
      refine st ha rfl rfl rfl (by kernel_rfl) rfl rfl hBgp0 (Nat.le_of_ble_eq_true (by kernel_rfl)) fun a w17 ha hb2 hc18 _ => ?_
      have o1 : Ok [gp0] (M) w5.heap.size := Ok.one (.inl (hg_gp0))
      have o2 : Ok (M) (M) w5.heap.size := (fun _ h => .inl (h))
      have f13 := f13.chg hc18 o1 o2
      have f16 := f16.chg hc18 o1 o2
      have f1 := f1.chg hc18 o1 o2
      have hM : MS (M) w17 := (fun x h => hM.chg hc18 x (h))
      have hC := hC.trans hc18 (Ok.one (.inl (by simp)))
      have hBgp0 : Box w17 gp0 (cS_cursor_rest (⟨((a0.left.take (Int.toNat (a0.left.length : Int))).drop (Int.toNat a1)), a0.bad⟩ : S_cursor_rest) ao16 cap16) := hb2
      refine hK14 _ _ ?_; clear hK14 K14
      refine wp_seq_k fun K19 hK19 => ?_
      refine wp_region_lit ?_
      refine seg ha 2 [(4, .slice ao13 ((a0.left.take (Int.toNat a1)).drop (Int.toNat (0 : Int))).length cap13)] (by kernel_rfl) fun a ha => ?_
      refine hK19 _ _ ?_; clear hK19 K19
      refine wp_ret ?_
      try simp only [Exit.then, Exit.inBlock]
      obtain rfl := Option.some.inj H
      refine rt1 ha rfl rfl ?_
      exact ⟨ao13, cap13, ao16, cap16, rfl, f13, f16, hBgp0, hC, hM⟩
  have H := H5
  refine seg ha 3 [(0, .pointer (some ⟨gp0, 0, none⟩)), (1, .int .i64 a1), (8, .pointer (some ⟨gp0, 1, none⟩))] (by kernel_rfl) fun a ha => ?_
  refine ld (v := .bool a0.bad) ha rfl (by kernel_rfl) rfl rfl rfl (hBgp0.cell' (o := 1) rfl (by kernel_rfl)) fun a ha => ?_
  refine seg ha 1 [(10, .bool a0.bad), (0, .pointer (some ⟨gp0, 0, none⟩)), (1, .int .i64 a1)] (by kernel_rfl) fun a ha => ?_
  rcases Bool.eq_false_or_eq_true (a0.bad) with hb20 | hb20
  · have ha := ha.lit hb20
    have H := ite_t hb20 H
    refine sgh ha 12 [1, 1, 3, 0, 1, 1, 1, 1, 1, 1, 1, 3] [(0, .pointer (some ⟨gp0, 0, none⟩)), (1, .int .i64 a1), (22, .bool true)] (by kernel_rfl) fun a ha => ?_
    obtain rfl := Option.some.inj H
    exact J5 _ _ (ha.sel (by kernel_rfl)) f1 hBgp0 hC hM
  · have ha := ha.lit hb20
    have H := ite_f hb20 H
    refine sgh ha 4 [2, 2, 4, 0] [(14, .bool (decide (a1 < (0 : Int)))), (0, .pointer (some ⟨gp0, 0, none⟩)), (1, .int .i64 a1)] (by kernel_rfl) fun a ha => ?_
    rcases Bool.eq_false_or_eq_true (decide (a1 < (0 : Int))) with hb21 | hb21
    · have ha := ha.lit hb21
      have H := ite_t hb21 H
      refine sgh ha 8 [1, 1, 1, 1, 1, 1, 1, 3] [(0, .pointer (some ⟨gp0, 0, none⟩)), (1, .int .i64 a1), (22, .bool true)] (by kernel_rfl) fun a ha => ?_
      obtain rfl := Option.some.inj H
      exact J5 _ _ (ha.sel (by kernel_rfl)) f1 hBgp0 hC hM
    · have ha := ha.lit hb21
      have H := ite_f hb21 H
      refine sgh ha 4 [2, 2, 2, 2] [(0, .pointer (some ⟨gp0, 0, none⟩)), (1, .int .i64 a1), (14, .bool false), (15, .int .i64 a1), (18, .pointer (some ⟨gp0, 0, none⟩))] (by kernel_rfl) fun a ha => ?_
      refine ld (v := .slice ao1 a0.left.length cap1) ha rfl (by kernel_rfl) rfl rfl rfl (hBgp0.cell' (o := 0) rfl (by kernel_rfl)) fun a ha => ?_
      refine sgh ha 3 [2, 2, 4] [(0, .pointer (some ⟨gp0, 0, none⟩)), (1, .int .i64 a1), (22, .bool (decide (a1 > (a0.left.length : Int))))] (by kernel_rfl) fun a ha => ?_
      obtain rfl := Option.some.inj H
      exact J5 _ _ (ha.sel (by kernel_rfl)) f1 hBgp0 hC hM
def cursor_Reader_Num.l0 (t8 : List Int × S_cursor_rest) : Nat → Int → Int → Option (Int)
  | 0, _, _ => none
  | kk + 1, x12, x13 => (if (decide (x13 < (t8.1.length : Int))) = true then (if 0 ≤ x13 ∧ x13 < (t8.1.length : Int) then cursor_Reader_Num.l0 t8 kk (IntKind.i64.wrap (BitVec.ofInt IntKind.i64.bits (IntKind.i64.wrap (x12 * 2 ^ (min (8 : Int).toNat IntKind.i64.bits))) ||| BitVec.ofInt IntKind.i64.bits (IntKind.i64.wrap (rd t8.1 x13))).toNat) (IntKind.i64.wrap (x13 + (1 : Int))) else none) else some (x12 : Int))
def cursor_Reader_Num.f (k : Nat) (a0 : S_cursor_Reader) (a1 : Int) : Option (Int × S_cursor_Reader) := ((if (if (decide (a1 < (1 : Int))) = true then true else (decide (a1 > (4 : Int)))) = true then some ((-1 : Int) : Int) else some (a1 : Int))).bind fun s4 => (cursor_rest_next.f a0.rest s4).bind fun t8 => (cursor_Reader_Num.l0 t8 k (0 : Int) (0 : Int)).bind fun s11 => some ((s11 : Int), ((⟨t8.2⟩ : S_cursor_Reader) : S_cursor_Reader))
set_option maxRecDepth 100000 in
theorem cursor_Reader_Num.walk (w : World) (M : List Nat) (hM : MS M w) (gp0 : Nat) (a0 : S_cursor_Reader) (ao1 : Option Addr) (cap1 : Nat) (f1 : RSl (rInt .u8) 5 w M ao1 cap1 a0.rest.left) (hBgp0 : Box w gp0 (cS_cursor_Reader a0 ao1 cap1)) (hg_gp0 : gp0 ∈ M) (a1 : Int) (k : Nat) (r : Int × S_cursor_Reader) (H : cursor_Reader_Num.f k a0 a1 = some r) :
    To Try.prog 23 [.pointer (some ⟨gp0, 0, none⟩), .int .i64 a1] w fun v w' => ∃ (ao29 : Option Addr) (cap29 : Nat), v = .int .i64 r.1 ∧ (RSl (rInt .u8) 5 w' (M) ao29 cap29 r.2.rest.left) ∧ (Box w' gp0 (cS_cursor_Reader r.2 ao29 cap29)) ∧ Chg [gp0] w w' ∧ MS (M) w' := by
  unfold cursor_Reader_Num.f at H
  refine ent Try.func23 rfl [(0, .pointer (some ⟨gp0, 0, none⟩)), (1, .int .i64 a1)] rfl (by rfl) fun a ha => ?_
  have hC : Chg [gp0] w w := Chg.refl _ _
  refine wp_seq_k fun K2 hK2 => ?_
  refine wp_region_lit ?_
  refine seg ha 1 [(0, .pointer (some ⟨gp0, 0, none⟩)), (1, .int .i64 a1)] (by kernel_rfl) fun a ha => ?_
  refine hK2 _ _ ?_; clear hK2 K2
  refine wp_seq_k fun K3 hK3 => ?_
  obtain ⟨s4, H4, H⟩ := bind_some H
  have J4 : ∀ (a : Act) (w4 : World), Has a Try.f23.ntmps [(0, .pointer (some ⟨gp0, 0, none⟩)), (1, .int .i64 s4)] → (RSl (rInt .u8) 5 w4 (M) ao1 cap1 a0.rest.left) → (Box w4 gp0 (cS_cursor_Reader a0 ao1 cap1)) → (Chg [gp0] w w4) → (MS (M) w4) → K3 a w4 := by
    intro a w4 ha f1 hBgp0 hC hM
    refine hK3 _ _ ?_; clear hK3 K3
    refine wp_seq_k fun K5 hK5 => ?_
    refine wp_region_lit ?_
    refine seg ha 1 [(0, .pointer (some ⟨gp0, 0, none⟩)), (1, .int .i64 s4), (5, .int .i64 (0 : Int))] (by kernel_rfl) fun a ha => ?_
    refine hK5 _ _ ?_; clear hK5 K5
    refine wp_seq_k fun K6 hK6 => ?_
    refine wp_seq_k fun K7 hK7 => ?_
    refine wp_region_lit ?_
    refine seg ha 4 [(5, .int .i64 (0 : Int)), (16, .pointer (some ⟨gp0, 0, none⟩)), (17, .int .i64 s4)] (by kernel_rfl) fun a ha => ?_
    obtain ⟨t8, H8, H⟩ := bind_some H
    refine cl ha (by rfl) (by kernel_rfl) (by rfl) (by rfl) (by rfl) (cursor_rest_next.walk w4 _ hM gp0 a0.rest ao1 cap1 f1 hBgp0 (hg_gp0) s4 _ H8) ?_
    rintro _ w8 ⟨ao9, cap9, ao10, cap10, rfl, f9, f10, qhBgp0, hc8, hMn⟩ a ha
    have o1 : Ok [gp0] (M) w4.heap.size := Ok.one (.inl (hg_gp0))
    have o2 : Ok (M) (M) w4.heap.size := (fun _ h => .inl (h))
    have f1 := f1.chg hc8 o1 o2
    have hM : MS (M) w8 := (fun x h => hM.chg hc8 x (h))
    have hC := hC.trans hc8 (Ok.one (.inl (by simp)))
    have hBgp0 := qhBgp0
    refine seg ha 2 [(5, .int .i64 (0 : Int)), (18, .slice ao9 t8.1.length cap9), (19, .int .i64 (t8.1.length : Int)), (20, .int .i64 (0 : Int))] (by kernel_rfl) fun a ha => ?_
    refine hK7 _ _ ?_; clear hK7 K7
    refine wp_block ?_
    obtain ⟨s11, H11, H⟩ := bind_some H
    have J11 : ∀ (a : Act) (wx11 : World), Has a Try.f23.ntmps [(5, .int .i64 s11)] → (RSl (rInt .u8) 5 wx11 (M) ao10 cap10 t8.2.left) → (Box wx11 gp0 (cS_cursor_Reader (⟨t8.2⟩ : S_cursor_Reader) ao10 cap10)) → (Chg [gp0] w wx11) → (MS (M) wx11) → K6 a wx11 := by
      intro a wx11 ha f10 hBgp0 hC hM
      refine hK6 _ _ ?_; clear hK6 K6
      refine wp_seq_k fun K14 hK14 => ?_
      refine wp_region_lit ?_
      refine seg ha 2 [(4, .int .i64 s11)] (by kernel_rfl) fun a ha => ?_
      refine hK14 _ _ ?_; clear hK14 K14
      refine wp_ret ?_
      try simp only [Exit.then, Exit.inBlock]
      obtain rfl := Option.some.inj H
      refine rt1 ha rfl rfl ?_
      exact ⟨ao10, cap10, rfl, f10, hBgp0, hC, hM⟩
    have Hc11 := H
    have H := H11
    refine wp_loop_ghost (fun kk a w11 => ∃ (x12 : Int) (x13 : Int), cursor_Reader_Num.l0 t8 kk x12 x13 = some s11 ∧ Has a Try.f23.ntmps [(5, .int .i64 x12), (18, .slice ao9 t8.1.length cap9), (19, .int .i64 (t8.1.length : Int)), (20, .int .i64 x13)] ∧ (RSl (rInt .u8) 5 w11 (M) ao9 cap9 t8.1) ∧ (RSl (rInt .u8) 5 w11 (M) ao10 cap10 t8.2.left) ∧ (Box w11 gp0 (cS_cursor_Reader (⟨t8.2⟩ : S_cursor_Reader) ao10 cap10)) ∧ (Chg [gp0] w w11) ∧ (MS (M) w11)) k ?_ ?_
    · skip
      exact ⟨(0 : Int), (0 : Int), H, (ha.sel (by kernel_rfl)), f9, f10, hBgp0, hC, hM⟩
    · rintro kk a w11 ⟨x12, x13, H, ha, f9, f10, hBgp0, hC, hM⟩
      obtain _ | kk := kk
      · exact nomatch (show none = some _ from H)
      rw [cursor_Reader_Num.l0] at H
      refine wp_seq_k fun K15 hK15 => ?_
      refine wp_region_lit ?_
      refine seg ha 1 [(5, .int .i64 x12), (18, .slice ao9 t8.1.length cap9), (19, .int .i64 (t8.1.length : Int)), (20, .int .i64 x13), (21, .bool (decide (x13 < (t8.1.length : Int))))] (by kernel_rfl) fun a ha => ?_
      refine hK15 _ _ ?_; clear hK15 K15
      refine wp_seq_k fun K16 hK16 => ?_
      refine cnd ha rfl (fun hc17 => ?_) (fun hc17 => ?_)
      · have H := ite_t hc17 H
        refine wp_skip ?_
        refine hK16 _ _ ?_; clear hK16 K16
        refine wp_seq_k fun K18 hK18 => ?_
        refine wp_block ?_
        refine wp_seq_k fun K19 hK19 => ?_
        refine wp_region_lit ?_
        obtain ⟨⟨hx20, hx20'⟩, H⟩ := ite_some H
        refine ix (r := (rInt .u8)) ha (by kernel_rfl) (by kernel_rfl) rfl rfl rfl rfl rfl f9 hx20 hx20' fun a ge21 oe22 cs23 hn26 hR24 hE25 ha => ?_
        rw [rd_get] at hR24
        obtain rfl := hR24
        have hE25 : ∀ j v, ([.int .u8 (rd t8.1 x13)] : List Value)[j]? = some v → w11.cell? ⟨ge21, oe22 + j, none⟩ = some v := hE25
        refine ld ha rfl (by kernel_rfl) rfl rfl rfl (hE25 0 (.int .u8 (rd t8.1 x13)) (by kernel_rfl)) fun a ha => ?_
        refine seg ha 1 [(5, .int .i64 x12), (7, .int .u8 (rd t8.1 x13)), (18, .slice ao9 t8.1.length cap9), (19, .int .i64 (t8.1.length : Int)), (20, .int .i64 x13)] (by kernel_rfl) fun a ha => ?_
        refine hK19 _ _ ?_; clear hK19 K19
        refine wp_region_lit ?_
        refine seg ha 6 [(5, .int .i64 (IntKind.i64.wrap (BitVec.ofInt IntKind.i64.bits (IntKind.i64.wrap (x12 * 2 ^ (min (8 : Int).toNat IntKind.i64.bits))) ||| BitVec.ofInt IntKind.i64.bits (IntKind.i64.wrap (rd t8.1 x13))).toNat)), (18, .slice ao9 t8.1.length cap9), (19, .int .i64 (t8.1.length : Int)), (20, .int .i64 x13)] (by kernel_rfl) fun a ha => ?_
        refine hK18 _ _ ?_; clear hK18 K18
        refine wp_region_lit ?_
        refine seg ha 2 [(5, .int .i64 (IntKind.i64.wrap (BitVec.ofInt IntKind.i64.bits (IntKind.i64.wrap (x12 * 2 ^ (min (8 : Int).toNat IntKind.i64.bits))) ||| BitVec.ofInt IntKind.i64.bits (IntKind.i64.wrap (rd t8.1 x13))).toNat)), (18, .slice ao9 t8.1.length cap9), (19, .int .i64 (t8.1.length : Int)), (20, .int .i64 (IntKind.i64.wrap (x13 + (1 : Int))))] (by kernel_rfl) fun a ha => ?_
        exact ⟨kk, Nat.lt_succ_self _, ⟨IntKind.i64.wrap (BitVec.ofInt IntKind.i64.bits (IntKind.i64.wrap (x12 * 2 ^ (min (8 : Int).toNat IntKind.i64.bits))) ||| BitVec.ofInt IntKind.i64.bits (IntKind.i64.wrap (rd t8.1 x13))).toNat, IntKind.i64.wrap (x13 + (1 : Int)), H, (ha.sel (by kernel_rfl)), f9, f10, hBgp0, hC, hM⟩⟩
      · have H := ite_f hc17 H
        refine wp_exit ?_
        simp only [Exit.then, Exit.inBlock, ↓reduceIte, Nat.reduceEqDiff]
        obtain rfl := Option.some.inj H
        exact J11 _ _ (ha.sel (by kernel_rfl)) f10 hBgp0 hC hM
  have H := H4
  refine wp_seq_k fun K27 hK27 => ?_
  refine wp_region_lit ?_
  refine seg ha 6 [(0, .pointer (some ⟨gp0, 0, none⟩)), (1, .int .i64 a1), (13, .bool (if (decide (a1 < (1 : Int))) = true then true else (decide (a1 > (4 : Int)))))] (by kernel_rfl) fun a ha => ?_
  refine hK27 _ _ ?_; clear hK27 K27
  refine cnd ha rfl (fun hc28 => ?_) (fun hc28 => ?_)
  · have H := ite_t hc28 H
    refine wp_region_lit ?_
    refine seg ha 1 [(0, .pointer (some ⟨gp0, 0, none⟩)), (1, .int .i64 (-1 : Int))] (by kernel_rfl) fun a ha => ?_
    obtain rfl := Option.some.inj H
    exact J4 _ _ (ha.sel (by kernel_rfl)) f1 hBgp0 hC hM
  · have H := ite_f hc28 H
    refine wp_skip ?_
    obtain rfl := Option.some.inj H
    exact J4 _ _ (ha.sel (by kernel_rfl)) f1 hBgp0 hC hM
def cursor_rest_Left.f (a0 : S_cursor_rest) : Option (Int) := (if a0.bad = true then some (((0 : Int) : Int)) else some (((a0.left.length : Int) : Int)))
set_option maxRecDepth 100000 in
theorem cursor_rest_Left.walk (w : World) (M : List Nat) (hM : MS M w) (gp0 : Nat) (a0 : S_cursor_rest) (ao1 : Option Addr) (cap1 : Nat) (f1 : RSl (rInt .u8) 5 w M ao1 cap1 a0.left) (hBgp0 : Box w gp0 (cS_cursor_rest a0 ao1 cap1)) (hg_gp0 : gp0 ∈ M) (r : Int) (H : cursor_rest_Left.f a0 = some r) :
    To Try.prog 24 [.pointer (some ⟨gp0, 0, none⟩)] w fun v w' => v = .int .i64 r ∧ Chg [] w w' ∧ MS (M) w' := by
  unfold cursor_rest_Left.f at H
  refine ent Try.func24 rfl [(0, .pointer (some ⟨gp0, 0, none⟩))] rfl (by rfl) fun a ha => ?_
  have hC : Chg [] w w := Chg.refl _ _
  refine wp_seq_k fun K2 hK2 => ?_
  refine wp_region_lit ?_
  refine seg ha 1 [(0, .pointer (some ⟨gp0, 0, none⟩))] (by kernel_rfl) fun a ha => ?_
  refine hK2 _ _ ?_; clear hK2 K2
  refine wp_seq_k fun K3 hK3 => ?_
  refine wp_seq_k fun K4 hK4 => ?_
  refine wp_region_lit ?_
  refine seg ha 3 [(0, .pointer (some ⟨gp0, 0, none⟩)), (5, .pointer (some ⟨gp0, 1, none⟩))] (by kernel_rfl) fun a ha => ?_
  refine ld (v := .bool a0.bad) ha rfl (by kernel_rfl) rfl rfl rfl (hBgp0.cell' (o := 1) rfl (by kernel_rfl)) fun a ha => ?_
  refine hK4 _ _ ?_; clear hK4 K4
  refine cnd ha rfl (fun hc5 => ?_) (fun hc5 => ?_)
  · have H := ite_t hc5 H
    refine wp_seq_k fun K6 hK6 => ?_
    refine wp_region_lit ?_
    refine seg ha 1 [(2, .int .i64 (0 : Int))] (by kernel_rfl) fun a ha => ?_
    refine hK6 _ _ ?_; clear hK6 K6
    refine wp_ret ?_
    try simp only [Exit.then, Exit.inBlock]
    obtain rfl := Option.some.inj H
    refine rt1 ha rfl rfl ?_
    exact ⟨rfl, hC, hM⟩
  · have H := ite_f hc5 H
    refine wp_skip ?_
    refine hK3 _ _ ?_; clear hK3 K3
    refine wp_seq_k fun K7 hK7 => ?_
    refine wp_region_lit ?_
    refine seg ha 3 [(9, .pointer (some ⟨gp0, 0, none⟩))] (by kernel_rfl) fun a ha => ?_
    refine ld (v := .slice ao1 a0.left.length cap1) ha rfl (by kernel_rfl) rfl rfl rfl (hBgp0.cell' (o := 0) rfl (by kernel_rfl)) fun a ha => ?_
    refine seg ha 2 [(2, .int .i64 (a0.left.length : Int))] (by kernel_rfl) fun a ha => ?_
    refine hK7 _ _ ?_; clear hK7 K7
    refine wp_ret ?_
    try simp only [Exit.then, Exit.inBlock]
    obtain rfl := Option.some.inj H
    refine rt1 ha rfl rfl ?_
    exact ⟨rfl, hC, hM⟩
def cursor_Put.l0 (a1 : Int) : Nat → (List Int) → Int → Option (List Int)
  | 0, _, _ => none
  | kk + 1, x20, x21 => (if (decide (x21 ≥ (0 : Int))) = true then (if 0 ≤ x21 then (if (x20.length + ([IntKind.u8.wrap (Int.fdiv a1 (2 ^ (min (Int.toNat x21) IntKind.i64.bits)))] : List Int).length) * 1 ≤ 140737488355328 then cursor_Put.l0 a1 kk (x20 ++ ([IntKind.u8.wrap (Int.fdiv a1 (2 ^ (min (Int.toNat x21) IntKind.i64.bits)))] : List Int)) (IntKind.i64.wrap (x21 - (8 : Int))) else none) else none) else some (x20 : List Int))
def cursor_Put.f (k : Nat) (a0 : List Int) (a1 : Int) (a2 : Int) : Option (List Int × Int) := (if (if (decide (a2 < (1 : Int))) = true then true else (decide (a2 > (4 : Int)))) = true then some ((([] : List Int) : List Int), ((1 : Int) : Int)) else ((if (decide (a1 < (0 : Int))) = true then some (true : Bool) else (if 0 ≤ (IntKind.i64.wrap ((8 : Int) * a2)) then some ((Int.fdiv a1 (2 ^ (min (Int.toNat (IntKind.i64.wrap ((8 : Int) * a2))) IntKind.i64.bits))) != (0 : Int) : Bool) else none))).bind fun s9 => (if s9 = true then some ((([] : List Int) : List Int), ((5 : Int) : Int)) else (bytes_Clone.f a0).bind fun t14 => (cursor_Put.l0 a1 k t14 (IntKind.i64.wrap ((8 : Int) * (IntKind.i64.wrap (a2 - (1 : Int)))))).bind fun s18 => some ((s18 : List Int), ((0 : Int) : Int))))
set_option maxRecDepth 100000 in
theorem cursor_Put.walk (w : World) (M : List Nat) (hM : MS M w) (a0 : List Int) (ao1 : Option Addr) (cap1 : Nat) (f1 : RSl (rInt .u8) 5 w M ao1 cap1 a0) (a1 : Int) (a2 : Int) (k : Nat) (r : List Int × Int) (H : cursor_Put.f k a0 a1 a2 = some r) :
    To Try.prog 15 [.slice ao1 a0.length cap1, .int .i64 a1, .int .i64 a2] w fun v w' => ∃ (ao39 : Option Addr) (cap39 : Nat), v = .tuple #[.slice ao39 r.1.length cap39, .int .i64 r.2] ∧ (Own (rInt .u8) 5 w' (blkL ao39 ++ (M)) ao39 cap39 r.1) ∧ (∀ x ∈ blkL ao39, w.heap.size ≤ x) ∧ Chg [] w w' ∧ MS (blkL ao39 ++ (M)) w' := by
  unfold cursor_Put.f at H
  refine ent Try.func15 rfl [(0, .slice ao1 a0.length cap1), (1, .int .i64 a1), (2, .int .i64 a2)] rfl (by rfl) fun a ha => ?_
  have hC : Chg [] w w := Chg.refl _ _
  refine wp_seq_k fun K2 hK2 => ?_
  refine wp_region_lit ?_
  refine seg ha 2 [(0, .slice ao1 a0.length cap1), (1, .int .i64 a1), (2, .int .i64 a2)] (by kernel_rfl) fun a ha => ?_
  refine hK2 _ _ ?_; clear hK2 K2
  refine wp_seq_k fun K3 hK3 => ?_
  refine wp_block ?_
  refine wp_seq_k fun K4 hK4 => ?_
  refine wp_region_lit ?_
  refine seg ha 7 [(0, .slice ao1 a0.length cap1), (1, .int .i64 a1), (2, .int .i64 a2), (10, .bool (if (decide (a2 < (1 : Int))) = true then true else (decide (a2 > (4 : Int)))))] (by kernel_rfl) fun a ha => ?_
  refine hK4 _ _ ?_; clear hK4 K4
  refine cnd ha rfl (fun hc5 => ?_) (fun hc5 => ?_)
  · have H := ite_t hc5 H
    refine wp_seq_k fun K6 hK6 => ?_
    refine wp_region_lit ?_
    refine seg ha 2 [(6, .slice none 0 0), (7, .int .i64 (1 : Int))] (by kernel_rfl) fun a ha => ?_
    refine hK6 _ _ ?_; clear hK6 K6
    refine wp_ret ?_
    try simp only [Exit.then, Exit.inBlock]
    have o1 : Ok [] (M) w.heap.size := Ok.nil _ _
    have o2 : Ok (blkL none ++ (M)) (M) w.heap.size := (Ok.app (fun _ h => nomatch h) (fun _ h => .inl (h)))
    have nw : Ok (blkL none) (M) w.heap.size := (fun _ h => nomatch h)
    have p_z7_M : ∀ x ∈ blkL none, x ∉ M := fun x hx hy => absurd (hM x (hy)) (Nat.not_lt.2 ((fun _ h => nomatch h) x hx))
    have e_z7 : ∀ x ∈ blkL none, w.heap.size ≤ x := fun x hx => Nat.le_trans hC.size ((fun _ h => nomatch h) x hx)
    have hM : MS (blkL none ++ (M)) w := (MS.app (fun _ h => nomatch h) (fun x h => hM.chg (Chg.refl [] _) x (h)))
    have hC := hC.trans (Chg.refl [] _) (Ok.nil _ _)
    obtain rfl := Option.some.inj H
    refine rt2 ha rfl rfl rfl ?_
    exact ⟨none, 0, rfl, Own.nil, e_z7, hC, hM⟩
  · have H := ite_f hc5 H
    refine wp_seq_k fun K8 hK8 => ?_
    refine wp_region_lit ?_
    obtain ⟨s9, H9, H⟩ := bind_some H
    have J9 : ∀ (a : Act) (w9 : World), Has a Try.f15.ntmps [(0, .slice ao1 a0.length cap1), (1, .int .i64 a1), (2, .int .i64 a2), (17, .bool s9)] → (RSl (rInt .u8) 5 w9 (M) ao1 cap1 a0) → (Chg [] w w9) → (MS (M) w9) → K8 a w9 := by
      intro a w9 ha f1 hC hM
      refine hK8 _ _ ?_; clear hK8 K8
      refine cnd ha rfl (fun hc10 => ?_) (fun hc10 => ?_)
      · have H := ite_t hc10 H
        refine wp_seq_k fun K11 hK11 => ?_
        refine wp_region_lit ?_
        refine seg ha 2 [(6, .slice none 0 0), (7, .int .i64 (5 : Int))] (by kernel_rfl) fun a ha => ?_
        refine hK11 _ _ ?_; clear hK11 K11
        refine wp_ret ?_
        try simp only [Exit.then, Exit.inBlock]
        have o1 : Ok [] (M) w9.heap.size := Ok.nil _ _
        have o2 : Ok (blkL none ++ (M)) (M) w9.heap.size := (Ok.app (fun _ h => nomatch h) (fun _ h => .inl (h)))
        have nw : Ok (blkL none) (M) w9.heap.size := (fun _ h => nomatch h)
        have p_z12_M : ∀ x ∈ blkL none, x ∉ M := fun x hx hy => absurd (hM x (hy)) (Nat.not_lt.2 ((fun _ h => nomatch h) x hx))
        have e_z12 : ∀ x ∈ blkL none, w.heap.size ≤ x := fun x hx => Nat.le_trans hC.size ((fun _ h => nomatch h) x hx)
        have hM : MS (blkL none ++ (M)) w9 := (MS.app (fun _ h => nomatch h) (fun x h => hM.chg (Chg.refl [] _) x (h)))
        have hC := hC.trans (Chg.refl [] _) (Ok.nil _ _)
        obtain rfl := Option.some.inj H
        refine rt2 ha rfl rfl rfl ?_
        exact ⟨none, 0, rfl, Own.nil, e_z12, hC, hM⟩
      · have H := ite_f hc10 H
        refine wp_skip ?_
        refine hK3 _ _ ?_; clear hK3 K3
        refine wp_seq_k fun K13 hK13 => ?_
        refine wp_region_lit ?_
        refine seg ha 1 [(1, .int .i64 a1), (2, .int .i64 a2), (27, .slice ao1 a0.length cap1)] (by kernel_rfl) fun a ha => ?_
        obtain ⟨t14, H14, H⟩ := bind_some H
        refine cl ha (by rfl) (by kernel_rfl) (by rfl) (by rfl) (by rfl) (bytes_Clone.walk w9 _ hM a0 ao1 cap1 f1 _ H14) ?_
        rintro _ w14 ⟨ao15, cap15, rfl, f15, ne_i15, hc14, hMn⟩ a ha
        have o1 : Ok [] (M) w9.heap.size := Ok.nil _ _
        have o2 : Ok (blkL ao15 ++ (M)) (M) w9.heap.size := (Ok.app (fun x h => .inr (ne_i15 x h)) (fun _ h => .inl (h)))
        have f1 := f1.chg hc14 o1 o2
        have nw : Ok (blkL ao15) (M) w9.heap.size := (fun x h => .inr (ne_i15 x h))
        have p_i15_M : ∀ x ∈ blkL ao15, x ∉ M := fun x hx hy => absurd (hM x (hy)) (Nat.not_lt.2 (ne_i15 x hx))
        have e_i15 : ∀ x ∈ blkL ao15, w.heap.size ≤ x := fun x hx => Nat.le_trans hC.size (ne_i15 x hx)
        have hM : MS (blkL ao15 ++ (M)) w14 := (MS.app (fun x h => hMn x (ml h)) (fun x h => hM.chg hc14 x (h)))
        have hC := hC.trans hc14 (Ok.nil _ _)
        refine seg ha 1 [(1, .int .i64 a1), (2, .int .i64 a2), (8, .slice ao15 t14.length cap15)] (by kernel_rfl) fun a ha => ?_
        refine hK13 _ _ ?_; clear hK13 K13
        refine wp_seq_k fun K16 hK16 => ?_
        refine wp_seq_k fun K17 hK17 => ?_
        refine wp_region_lit ?_
        refine seg ha 4 [(1, .int .i64 a1), (8, .slice ao15 t14.length cap15), (9, .int .i64 (IntKind.i64.wrap ((8 : Int) * (IntKind.i64.wrap (a2 - (1 : Int))))))] (by kernel_rfl) fun a ha => ?_
        refine hK17 _ _ ?_; clear hK17 K17
        refine wp_block ?_
        obtain ⟨s18, H18, H⟩ := bind_some H
        have J18 : ∀ (a : Act) (wx18 : World) (ao22 : Option Addr) (cap22 : Nat), Has a Try.f15.ntmps [(8, .slice ao22 s18.length cap22)] → (Own (rInt .u8) 5 wx18 (blkL ao22 ++ (M)) ao22 cap22 s18) → (∀ x ∈ blkL ao22, w.heap.size ≤ x) → (∀ x ∈ blkL ao22, x ∉ M) → (Chg [] w wx18) → (MS (blkL ao22 ++ (M)) wx18) → K16 a wx18 := by
          intro a wx18 ao22 cap22 ha f22 e_i22 p_i22_M hC hM
          refine hK16 _ _ ?_; clear hK16 K16
          refine wp_seq_k fun K23 hK23 => ?_
          refine wp_region_lit ?_
          refine seg ha 3 [(6, .slice ao22 s18.length cap22), (7, .int .i64 (0 : Int))] (by kernel_rfl) fun a ha => ?_
          refine hK23 _ _ ?_; clear hK23 K23
          refine wp_ret ?_
          try simp only [Exit.then, Exit.inBlock]
          obtain rfl := Option.some.inj H
          refine rt2 ha rfl rfl rfl ?_
          exact ⟨ao22, cap22, rfl, f22, e_i22, hC, hM⟩
        have Hc18 := H
        have H := H18
        refine wp_loop_ghost (fun kk a w18 => ∃ (x20 : List Int) (x21 : Int) (ao19 : Option Addr) (cap19 : Nat), cursor_Put.l0 a1 kk x20 x21 = some s18 ∧ Has a Try.f15.ntmps [(1, .int .i64 a1), (8, .slice ao19 x20.length cap19), (9, .int .i64 x21)] ∧ (Own (rInt .u8) 5 w18 (blkL ao19 ++ (M)) ao19 cap19 x20) ∧ (∀ x ∈ blkL ao19, w.heap.size ≤ x) ∧ (∀ x ∈ blkL ao19, x ∉ M) ∧ (Chg [] w w18) ∧ (MS (blkL ao19 ++ (M)) w18)) k ?_ ?_
        · skip
          exact ⟨t14, IntKind.i64.wrap ((8 : Int) * (IntKind.i64.wrap (a2 - (1 : Int)))), ao15, cap15, H, (ha.sel (by kernel_rfl)), f15, e_i15, p_i15_M, hC, hM⟩
        · rintro kk a w18 ⟨x20, x21, ao19, cap19, H, ha, f19, e_i19, p_i19_M, hC, hM⟩
          obtain _ | kk := kk
          · exact nomatch (show none = some _ from H)
          rw [cursor_Put.l0] at H
          refine wp_seq_k fun K24 hK24 => ?_
          refine wp_seq_k fun K25 hK25 => ?_
          refine wp_region_lit ?_
          refine seg ha 2 [(1, .int .i64 a1), (8, .slice ao19 x20.length cap19), (9, .int .i64 x21), (33, .bool (decide (x21 ≥ (0 : Int))))] (by kernel_rfl) fun a ha => ?_
          refine hK25 _ _ ?_; clear hK25 K25
          refine cnd ha rfl (fun hc26 => ?_) (fun hc26 => ?_)
          · have H := ite_t hc26 H
            refine wp_skip ?_
            refine hK24 _ _ ?_; clear hK24 K24
            refine wp_seq_k fun K27 hK27 => ?_
            refine wp_block ?_
            refine wp_region_lit ?_
            refine seg ha 3 [(1, .int .i64 a1), (9, .int .i64 x21), (36, .slice ao19 x20.length cap19), (37, .int .i64 a1), (38, .int .i64 x21)] (by kernel_rfl) fun a ha => ?_
            obtain ⟨hx28, H⟩ := ite_some H
            refine shr ha rfl rfl rfl rfl rfl hx28 fun a ha => ?_
            refine seg ha 1 [(1, .int .i64 a1), (9, .int .i64 x21), (36, .slice ao19 x20.length cap19), (40, .int .u8 (IntKind.u8.wrap (Int.fdiv a1 (2 ^ (min (Int.toNat x21) IntKind.i64.bits)))))] (by kernel_rfl) fun a ha => ?_
            refine bsl (vals := ([.int .u8 (IntKind.u8.wrap (Int.fdiv a1 (2 ^ (min (Int.toNat x21) IntKind.i64.bits))))] : List Value)) (T := 5) ha rfl (([.int .u8 (IntKind.u8.wrap (Int.fdiv a1 (2 ^ (min (Int.toNat x21) IntKind.i64.bits))))] : List Value) ++ ([] : List Value)) (fun w => by kernel_rfl) rfl rfl rfl fun a w29 g30 hN31 ha => ?_
            have o1 : Ok [] (blkL ao19 ++ (M)) w18.heap.size := Ok.nil _ _
            have o2 : Ok ([g30] ++ (blkL ao19 ++ (M))) (blkL ao19 ++ (M)) w18.heap.size := (Ok.app (hN31.ok _) (Ok.app (fun _ h => .inl (ml h)) (fun _ h => .inl (mr (h)))))
            have f19 := f19.chg hN31.chg o1 o2 (fun _ _ h => nomatch h) (fun _ h => mr (ml h))
            have nw : Ok ([g30]) (blkL ao19 ++ (M)) w18.heap.size := (hN31.ok _)
            have p_i32_i19 : ∀ x ∈ [g30], x ∉ (blkL ao19) := fun x hx hy => absurd (hM x (ml hy)) (Nat.not_lt.2 ((hN31.ge1) x hx))
            have p_i32_M : ∀ x ∈ [g30], x ∉ M := fun x hx hy => absurd (hM x (mr (hy))) (Nat.not_lt.2 ((hN31.ge1) x hx))
            have e_i32 : ∀ x ∈ [g30], w.heap.size ≤ x := fun x hx => Nat.le_trans hC.size ((hN31.ge1) x hx)
            have hM : MS ([g30] ++ (blkL ao19 ++ (M))) w29 := (MS.app hN31.ms (MS.app (fun x h => hM.chg hN31.chg x (ml h)) (fun x h => hM.chg hN31.chg x (mr (h)))))
            have hC := hC.trans hN31.chg (Ok.nil _ _)
            have f33 : Own (rInt .u8) 5 w29 ([g30] ++ (blkL ao19 ++ (M))) (some ⟨g30, 0, none⟩) 1 ([IntKind.u8.wrap (Int.fdiv a1 (2 ^ (min (Int.toNat x21) IntKind.i64.bits)))] : List Int) := hN31.own ⟨([.int .u8 (IntKind.u8.wrap (Int.fdiv a1 (2 ^ (min (Int.toNat x21) IntKind.i64.bits))))] : List Value), _, rfl, rfl, rfl⟩ (Nat.le_of_ble_eq_true rfl)
            obtain ⟨hx34, H⟩ := ite_some H
            refine app (r := (rInt .u8)) (xs := x20) (ys := ([IntKind.u8.wrap (Int.fdiv a1 (2 ^ (min (Int.toNat x21) IntKind.i64.bits)))] : List Int)) ha (ElemT.mk' (bytes := 1) (by kernel_rfl)) rfl rfl rfl rfl rfl f19 f33.src hx34 (by decide) fun a w35 ao36 cap36 hO36 hc36 hk36 hl36 ha => ?_
            have o1 : Ok (blkL ao19) ([g30] ++ (blkL ao19 ++ (M))) w29.heap.size := (fun _ h => .inl (mr (ml h)))
            have o2 : Ok (blkL ao36 ++ ([g30] ++ (M))) ([g30] ++ (blkL ao19 ++ (M))) w29.heap.size := (Ok.app (Ok.to hk36 (fun _ h => mr (ml h))) (Ok.app (fun _ h => .inl (ml h)) (fun _ h => .inl (mr (mr (h))))))
            have f33 := f33.chg hc36 o1 o2 p_i32_i19 (fun _ h => mr (ml h))
            have nw : Ok (blkL ao36) ([g30] ++ (blkL ao19 ++ (M))) w29.heap.size := (Ok.to hk36 (fun _ h => mr (ml h)))
            have p_i36_i32 : ∀ x ∈ blkL ao36, x ∉ ([g30]) := fun x hx hy => (hk36 x hx).elim (fun h => (fun x hx hy => p_i32_i19 x hy hx) x h hy) (fun h => absurd (hM x (ml hy)) (Nat.not_lt.2 h))
            have p_i36_M : ∀ x ∈ blkL ao36, x ∉ M := fun x hx hy => (hk36 x hx).elim (fun h => p_i19_M x h hy) (fun h => absurd (hM x (mr (mr (hy)))) (Nat.not_lt.2 h))
            have e_i36 : ∀ x ∈ blkL ao36, w.heap.size ≤ x := fun x hx => (hk36 x hx).elim (e_i19 x) (Nat.le_trans hC.size)
            have hM : MS (blkL ao36 ++ ([g30] ++ (M))) w35 := (MS.app hl36 (MS.app (fun x h => hM.chg hc36 x (ml h)) (fun x h => hM.chg hc36 x (mr (mr (h))))))
            have hC := hC.trans hc36 (fun x h => .inr (e_i19 x h))
            have f36 := hO36.chg (M' := blkL ao36 ++ ([g30] ++ (M))) (Chg.refl [] _) (Ok.nil _ _) (Ok.app (fun _ h => .inl (ml h)) (Ok.to (Ok.app (fun _ h => .inl (ml h)) (fun _ h => .inl (mr (mr (h))))) (fun _ h => mr h))) (fun _ _ h => nomatch h) (fun _ h => ml h)
            refine seg ha 1 [(1, .int .i64 a1), (8, .slice ao36 (x20 ++ ([IntKind.u8.wrap (Int.fdiv a1 (2 ^ (min (Int.toNat x21) IntKind.i64.bits)))] : List Int)).length cap36), (9, .int .i64 x21)] (by kernel_rfl) fun a ha => ?_
            refine hK27 _ _ ?_; clear hK27 K27
            refine wp_region_lit ?_
            refine seg ha 3 [(1, .int .i64 a1), (8, .slice ao36 (x20 ++ ([IntKind.u8.wrap (Int.fdiv a1 (2 ^ (min (Int.toNat x21) IntKind.i64.bits)))] : List Int)).length cap36), (9, .int .i64 (IntKind.i64.wrap (x21 - (8 : Int))))] (by kernel_rfl) fun a ha => ?_
            have o1 : Ok [] (blkL ao36 ++ ([g30] ++ (M))) w35.heap.size := Ok.nil _ _
            have o2 : Ok (blkL ao36 ++ (M)) (blkL ao36 ++ ([g30] ++ (M))) w35.heap.size := (Ok.app (fun _ h => .inl (ml h)) (fun _ h => .inl (mr (mr (h)))))
            have f36 := f36.chg (Chg.refl [] _) o1 o2 (fun _ _ h => nomatch h) (fun _ h => ml h)
            have hM : MS (blkL ao36 ++ (M)) w35 := (MS.app (fun x h => hM.chg (Chg.refl [] _) x (ml h)) (fun x h => hM.chg (Chg.refl [] _) x (mr (mr (h)))))
            have hC := hC.trans (Chg.refl [] _) (Ok.nil _ _)
            exact ⟨kk, Nat.lt_succ_self _, ⟨(x20 ++ ([IntKind.u8.wrap (Int.fdiv a1 (2 ^ (min (Int.toNat x21) IntKind.i64.bits)))] : List Int)), IntKind.i64.wrap (x21 - (8 : Int)), ao36, cap36, H, (ha.sel (by kernel_rfl)), f36, e_i36, p_i36_M, hC, hM⟩⟩
          · have H := ite_f hc26 H
            refine wp_exit ?_
            simp only [Exit.then, Exit.inBlock, ↓reduceIte, Nat.reduceEqDiff]
            obtain rfl := Option.some.inj H
            exact J18 _ _ ao19 cap19 (ha.sel (by kernel_rfl)) f19 e_i19 p_i19_M hC hM
    have H := H9
    refine seg ha 3 [(20, .bool (decide (a1 < (0 : Int)))), (0, .slice ao1 a0.length cap1), (1, .int .i64 a1), (2, .int .i64 a2)] (by kernel_rfl) fun a ha => ?_
    rcases Bool.eq_false_or_eq_true (decide (a1 < (0 : Int))) with hb37 | hb37
    · have ha := ha.lit hb37
      have H := ite_t hb37 H
      refine sgh ha 7 [1, 1, 1, 1, 1, 3, 0] [(0, .slice ao1 a0.length cap1), (1, .int .i64 a1), (2, .int .i64 a2), (17, .bool true)] (by kernel_rfl) fun a ha => ?_
      obtain rfl := Option.some.inj H
      exact J9 _ _ (ha.sel (by kernel_rfl)) f1 hC hM
    · have ha := ha.lit hb37
      have H := ite_f hb37 H
      refine sgh ha 3 [2, 2, 2] [(0, .slice ao1 a0.length cap1), (1, .int .i64 a1), (2, .int .i64 a2), (20, .bool false), (21, .int .i64 a1), (23, .int .i64 (IntKind.i64.wrap ((8 : Int) * a2)))] (by kernel_rfl) fun a ha => ?_
      obtain ⟨hx38, H⟩ := ite_some H
      refine shr ha rfl rfl rfl rfl rfl hx38 fun a ha => ?_
      refine sgh ha 3 [2, 4, 0] [(0, .slice ao1 a0.length cap1), (1, .int .i64 a1), (2, .int .i64 a2), (17, .bool ((Int.fdiv a1 (2 ^ (min (Int.toNat (IntKind.i64.wrap ((8 : Int) * a2))) IntKind.i64.bits))) != (0 : Int)))] (by kernel_rfl) fun a ha => ?_
      obtain rfl := Option.some.inj H
      exact J9 _ _ (ha.sel (by kernel_rfl)) f1 hC hM
def cursor_rest_Bad.f (a0 : S_cursor_rest) : Option (Bool) := some ((a0.bad : Bool))
set_option maxRecDepth 100000 in
theorem cursor_rest_Bad.walk (w : World) (M : List Nat) (hM : MS M w) (gp0 : Nat) (a0 : S_cursor_rest) (ao1 : Option Addr) (cap1 : Nat) (f1 : RSl (rInt .u8) 5 w M ao1 cap1 a0.left) (hBgp0 : Box w gp0 (cS_cursor_rest a0 ao1 cap1)) (hg_gp0 : gp0 ∈ M) (r : Bool) (H : cursor_rest_Bad.f a0 = some r) :
    To Try.prog 25 [.pointer (some ⟨gp0, 0, none⟩)] w fun v w' => v = .bool r ∧ Chg [] w w' ∧ MS (M) w' := by
  unfold cursor_rest_Bad.f at H
  refine ent Try.func25 rfl [(0, .pointer (some ⟨gp0, 0, none⟩))] rfl (by rfl) fun a ha => ?_
  have hC : Chg [] w w := Chg.refl _ _
  refine wp_seq_k fun K2 hK2 => ?_
  refine wp_region_lit ?_
  refine seg ha 1 [(0, .pointer (some ⟨gp0, 0, none⟩))] (by kernel_rfl) fun a ha => ?_
  refine hK2 _ _ ?_; clear hK2 K2
  refine wp_seq_k fun K3 hK3 => ?_
  refine wp_region_lit ?_
  refine seg ha 3 [(5, .pointer (some ⟨gp0, 1, none⟩))] (by kernel_rfl) fun a ha => ?_
  refine ld (v := .bool a0.bad) ha rfl (by kernel_rfl) rfl rfl rfl (hBgp0.cell' (o := 1) rfl (by kernel_rfl)) fun a ha => ?_
  refine seg ha 1 [(2, .bool a0.bad)] (by kernel_rfl) fun a ha => ?_
  refine hK3 _ _ ?_; clear hK3 K3
  refine wp_ret ?_
  try simp only [Exit.then, Exit.inBlock]
  obtain rfl := Option.some.inj H
  refine rt1 ha rfl rfl ?_
  exact ⟨rfl, hC, hM⟩
def bytes_Compare.f (a0 : List Int) (a1 : List Int) : Option (Int) := some ((Go.Lib.compareBytes (b2s a0) (b2s a1) : Int))
set_option maxRecDepth 100000 in
theorem bytes_Compare.walk (w : World) (M : List Nat) (hM : MS M w) (a0 : List Int) (ao1 : Option Addr) (cap1 : Nat) (f1 : RSl (rInt .u8) 5 w M ao1 cap1 a0) (a1 : List Int) (ao2 : Option Addr) (cap2 : Nat) (f2 : RSl (rInt .u8) 5 w M ao2 cap2 a1) (r : Int) (H : bytes_Compare.f a0 a1 = some r) :
    To Try.prog 48 [.slice ao1 a0.length cap1, .slice ao2 a1.length cap2] w fun v w' => v = .int .i64 r ∧ Chg [] w w' ∧ MS (M) w' := by
  unfold bytes_Compare.f at H
  refine ent Try.func48 rfl [(0, .slice ao1 a0.length cap1), (1, .slice ao2 a1.length cap2)] rfl (by rfl) fun a ha => ?_
  have hC : Chg [] w w := Chg.refl _ _
  refine wp_seq_k fun K3 hK3 => ?_
  refine wp_region_lit ?_
  refine seg ha 1 [(0, .slice ao1 a0.length cap1), (1, .slice ao2 a1.length cap2)] (by kernel_rfl) fun a ha => ?_
  refine hK3 _ _ ?_; clear hK3 K3
  refine wp_seq_k fun K4 hK4 => ?_
  refine wp_region_lit ?_
  refine seg ha 2 [(5, .slice ao1 a0.length cap1), (6, .slice ao2 a1.length cap2)] (by kernel_rfl) fun a ha => ?_
  refine cx (fn := Try.f52) ha (vals := [.slice ao1 a0.length cap1, .slice ao2 a1.length cap2]) (by rfl) (by rfl) (by rfl) (by rfl) (by rfl) (by rfl) (by rfl) (by rfl) (by rfl) (run_bcmp f1 f2) fun a ha => ?_
  refine seg ha 1 [(4, .int .i64 (Go.Lib.compareBytes (b2s a0) (b2s a1)))] (by kernel_rfl) fun a ha => ?_
  refine hK4 _ _ ?_; clear hK4 K4
  refine wp_ret ?_
  try simp only [Exit.then, Exit.inBlock]
  obtain rfl := Option.some.inj H
  refine rt1 ha rfl rfl ?_
  exact ⟨rfl, hC, hM⟩
def cursor_Order.f (a0 : List Int) (a1 : List Int) : Option (Int) := (bytes_Compare.f a0 a1).bind fun t5 => some ((t5 : Int))
set_option maxRecDepth 100000 in
theorem cursor_Order.walk (w : World) (M : List Nat) (hM : MS M w) (a0 : List Int) (ao1 : Option Addr) (cap1 : Nat) (f1 : RSl (rInt .u8) 5 w M ao1 cap1 a0) (a1 : List Int) (ao2 : Option Addr) (cap2 : Nat) (f2 : RSl (rInt .u8) 5 w M ao2 cap2 a1) (r : Int) (H : cursor_Order.f a0 a1 = some r) :
    To Try.prog 19 [.slice ao1 a0.length cap1, .slice ao2 a1.length cap2] w fun v w' => v = .int .i64 r ∧ Chg [] w w' ∧ MS (M) w' := by
  unfold cursor_Order.f at H
  refine ent Try.func19 rfl [(0, .slice ao1 a0.length cap1), (1, .slice ao2 a1.length cap2)] rfl (by rfl) fun a ha => ?_
  have hC : Chg [] w w := Chg.refl _ _
  refine wp_seq_k fun K3 hK3 => ?_
  refine wp_region_lit ?_
  refine seg ha 1 [(0, .slice ao1 a0.length cap1), (1, .slice ao2 a1.length cap2)] (by kernel_rfl) fun a ha => ?_
  refine hK3 _ _ ?_; clear hK3 K3
  refine wp_seq_k fun K4 hK4 => ?_
  refine wp_region_lit ?_
  refine seg ha 2 [(5, .slice ao1 a0.length cap1), (6, .slice ao2 a1.length cap2)] (by kernel_rfl) fun a ha => ?_
  obtain ⟨t5, H5, H⟩ := bind_some H
  refine cl ha (by rfl) (by kernel_rfl) (by rfl) (by rfl) (by rfl) (bytes_Compare.walk w _ hM a0 ao1 cap1 f1 a1 ao2 cap2 f2 _ H5) ?_
  rintro _ w5 ⟨rfl, hc5, hMn⟩ a ha
  have o1 : Ok [] (M) w.heap.size := Ok.nil _ _
  have o2 : Ok (M) (M) w.heap.size := (fun _ h => .inl (h))
  have f1 := f1.chg hc5 o1 o2
  have f2 := f2.chg hc5 o1 o2
  have hM : MS (M) w5 := (fun x h => hM.chg hc5 x (h))
  have hC := hC.trans hc5 (Ok.nil _ _)
  refine seg ha 1 [(4, .int .i64 t5)] (by kernel_rfl) fun a ha => ?_
  refine hK4 _ _ ?_; clear hK4 K4
  refine wp_ret ?_
  try simp only [Exit.then, Exit.inBlock]
  obtain rfl := Option.some.inj H
  refine rt1 ha rfl rfl ?_
  exact ⟨rfl, hC, hM⟩
def vinerylaw01_small.f (k : Nat) : Option (Bool) := (cursor_Open.f ([(1 : Int), (2 : Int), (3 : Int)] : List Int)).bind fun t8 => (cursor_Reader_Num.f k t8 (2 : Int)).bind fun t16 => (cursor_rest_Left.f t16.2.rest).bind fun t19 => (cursor_Reader_Num.f k t16.2 (2 : Int)).bind fun t21 => (cursor_Put.f k ([] : List Int) (258 : Int) (2 : Int)).bind fun t24 => (cursor_Put.f k ([] : List Int) (256 : Int) (1 : Int)).bind fun t27 => ((if (t16.1 == (258 : Int)) = true then (if (t19 == (1 : Int)) = true then (if (t21.1 == (0 : Int)) = true then (cursor_rest_Bad.f t21.2.rest).bind fun t34 => (if t34 = true then (if (t24.2 == (0 : Int)) = true then (if ((bstr (b2s t24.1)).toList == (bstr ([1, 2] : List UInt8)).toList) = true then (if (t27.2 == (5 : Int)) = true then (cursor_Order.f ([(97 : Int)] : List Int) ([(97 : Int), (98 : Int)] : List Int)).bind fun t55 => some (t55 == (-1 : Int) : Bool) else some (false : Bool)) else some (false : Bool)) else some (false : Bool)) else some (false : Bool)) else some (false : Bool)) else some (false : Bool)) else some (false : Bool))).bind fun s30 => some ((s30 : Bool))
set_option maxRecDepth 100000 in
theorem vinerylaw01_small.walk (w : World) (M : List Nat) (hM : MS M w)  (k : Nat) (r : Bool) (H : vinerylaw01_small.f k = some r) :
    To Try.prog 13 [] w fun v w' => v = .bool r ∧ Chg [] w w' ∧ MS (M) w' := by
  unfold vinerylaw01_small.f at H
  refine ent Try.func13 rfl [] rfl (by rfl) fun a ha => ?_
  have hC : Chg [] w w := Chg.refl _ _
  refine wp_seq_k fun K1 hK1 => ?_
  refine wp_region_lit ?_
  refine seg ha 1 [] (by kernel_rfl) fun a ha => ?_
  refine hK1 _ _ ?_; clear hK1 K1
  refine wp_seq_k fun K2 hK2 => ?_
  refine wp_region_lit ?_
  refine bsl (vals := ([.int .u8 (1 : Int), .int .u8 (2 : Int), .int .u8 (3 : Int)] : List Value)) (T := 5) ha rfl (([.int .u8 (1 : Int)] : List Value) ++ (([.int .u8 (2 : Int)] : List Value) ++ (([.int .u8 (3 : Int)] : List Value) ++ ([] : List Value)))) (fun w => by kernel_rfl) rfl rfl rfl fun a w3 g4 hN5 ha => ?_
  have o1 : Ok [] (M) w.heap.size := Ok.nil _ _
  have o2 : Ok ([g4] ++ (M)) (M) w.heap.size := (Ok.app (hN5.ok _) (fun _ h => .inl (h)))
  have nw : Ok ([g4]) (M) w.heap.size := (hN5.ok _)
  have p_i6_M : ∀ x ∈ [g4], x ∉ M := fun x hx hy => absurd (hM x (hy)) (Nat.not_lt.2 ((hN5.ge1) x hx))
  have e_i6 : ∀ x ∈ [g4], w.heap.size ≤ x := fun x hx => Nat.le_trans hC.size ((hN5.ge1) x hx)
  have hM : MS ([g4] ++ (M)) w3 := (MS.app hN5.ms (fun x h => hM.chg hN5.chg x (h)))
  have hC := hC.trans hN5.chg (Ok.nil _ _)
  have f7 : Own (rInt .u8) 5 w3 ([g4] ++ (M)) (some ⟨g4, 0, none⟩) 3 ([(1 : Int), (2 : Int), (3 : Int)] : List Int) := hN5.own ⟨([.int .u8 (1 : Int)] : List Value), _, rfl, rfl, ⟨([.int .u8 (2 : Int)] : List Value), _, rfl, rfl, ⟨([.int .u8 (3 : Int)] : List Value), _, rfl, rfl, rfl⟩⟩⟩ (Nat.le_of_ble_eq_true rfl)
  have fz := f7.toRSl (M' := M) (fun _ h => .inl (mr (h))) (fun x hx hm => p_i6_M x hx hm)
  have o1 : Ok [] ([g4] ++ (M)) w3.heap.size := Ok.nil _ _
  have o2 : Ok (M) ([g4] ++ (M)) w3.heap.size := (fun _ h => .inl (mr (h)))
  have hM : MS (M) w3 := (fun x h => hM.chg (Chg.refl [] _) x (mr (h)))
  have hC := hC.trans (Chg.refl [] _) (Ok.nil _ _)
  have f7 := fz
  obtain ⟨t8, H8, H⟩ := bind_some H
  refine cl ha (by rfl) (by kernel_rfl) (by rfl) (by rfl) (by rfl) (cursor_Open.walk w3 _ hM ([(1 : Int), (2 : Int), (3 : Int)] : List Int) (some ⟨g4, 0, none⟩) 3 f7 _ H8) ?_
  rintro _ w8 ⟨g9, ao11, cap11, rfl, f11, hBg9, ne_i10, hc8, hMn⟩ a ha
  have o1 : Ok [] (M) w3.heap.size := Ok.nil _ _
  have o2 : Ok ([g9] ++ (M)) (M) w3.heap.size := (Ok.app (fun x h => .inr (ne_i10 x h)) (fun _ h => .inl (h)))
  have f7 := f7.chg hc8 o1 o2
  have nw : Ok ([g9]) (M) w3.heap.size := (fun x h => .inr (ne_i10 x h))
  have p_i10_M : ∀ x ∈ [g9], x ∉ M := fun x hx hy => absurd (hM x (hy)) (Nat.not_lt.2 (ne_i10 x hx))
  have e_i10 : ∀ x ∈ [g9], w.heap.size ≤ x := fun x hx => Nat.le_trans hC.size (ne_i10 x hx)
  have hM : MS ([g9] ++ (M)) w8 := (MS.app (fun x h => hMn x (ml h)) (fun x h => hM.chg hc8 x (h)))
  have hC := hC.trans hc8 (Ok.nil _ _)
  refine seg ha 1 [(1, .pointer (some ⟨g9, 0, none⟩))] (by kernel_rfl) fun a ha => ?_
  refine hK2 _ _ ?_; clear hK2 K2
  refine wp_seq_k fun K12 hK12 => ?_
  refine wp_seq_k fun K13 hK13 => ?_
  refine wp_region_lit ?_
  refine seg ha 2 [(1, .pointer (some ⟨g9, 0, none⟩)), (12, .bool false)] (by kernel_rfl) fun a ha => ?_
  refine hK13 _ _ ?_; clear hK13 K13
  refine cnd ha rfl (fun h => nomatch h) (fun _ => ?_)
  refine wp_skip ?_
  refine hK12 _ _ ?_; clear hK12 K12
  refine wp_seq_k fun K15 hK15 => ?_
  refine wp_region_lit ?_
  refine seg ha 1 [(1, .pointer (some ⟨g9, 0, none⟩)), (13, .pointer (some ⟨g9, 0, none⟩))] (by kernel_rfl) fun a ha => ?_
  obtain ⟨t16, H16, H⟩ := bind_some H
  refine cl ha (by rfl) (by kernel_rfl) (by rfl) (by rfl) (by rfl) (cursor_Reader_Num.walk w8 _ hM g9 t8 ao11 cap11 f11 hBg9 (ml (List.mem_singleton.2 rfl)) (2 : Int) k _ H16) ?_
  rintro _ w16 ⟨ao17, cap17, rfl, f17, qhBg9, hc16, hMn⟩ a ha
  have o1 : Ok [g9] ([g9] ++ (M)) w8.heap.size := (fun _ h => .inl (ml h))
  have o2 : Ok ([g9] ++ (M)) ([g9] ++ (M)) w8.heap.size := (Ok.app (fun _ h => .inl (ml h)) (fun _ h => .inl (mr (h))))
  have f11 := f11.chg hc16 o1 o2
  have hM : MS ([g9] ++ (M)) w16 := (MS.app (fun x h => hM.chg hc16 x (ml h)) (fun x h => hM.chg hc16 x (mr (h))))
  have hC := hC.trans hc16 (fun x h => .inr (e_i10 x h))
  have hBg9 := qhBg9
  refine seg ha 1 [(1, .pointer (some ⟨g9, 0, none⟩)), (2, .int .i64 t16.1)] (by kernel_rfl) fun a ha => ?_
  refine hK15 _ _ ?_; clear hK15 K15
  refine wp_seq_k fun K18 hK18 => ?_
  refine wp_region_lit ?_
  refine seg ha 3 [(1, .pointer (some ⟨g9, 0, none⟩)), (2, .int .i64 t16.1), (17, .pointer (some ⟨g9, 0, none⟩))] (by kernel_rfl) fun a ha => ?_
  obtain ⟨t19, H19, H⟩ := bind_some H
  refine cl ha (by rfl) (by kernel_rfl) (by rfl) (by rfl) (by rfl) (cursor_rest_Left.walk w16 _ hM g9 t16.2.rest ao17 cap17 f17 hBg9 (ml (List.mem_singleton.2 rfl)) _ H19) ?_
  rintro _ w19 ⟨rfl, hc19, hMn⟩ a ha
  have o1 : Ok [] ([g9] ++ (M)) w16.heap.size := Ok.nil _ _
  have o2 : Ok ([g9] ++ (M)) ([g9] ++ (M)) w16.heap.size := (Ok.app (fun _ h => .inl (ml h)) (fun _ h => .inl (mr (h))))
  have f17 := f17.chg hc19 o1 o2
  have hBg9 := hBg9.chg hc19 (fun h => nomatch h)
  have hM : MS ([g9] ++ (M)) w19 := (MS.app (fun x h => hM.chg hc19 x (ml h)) (fun x h => hM.chg hc19 x (mr (h))))
  have hC := hC.trans hc19 (Ok.nil _ _)
  refine seg ha 1 [(1, .pointer (some ⟨g9, 0, none⟩)), (2, .int .i64 t16.1), (3, .int .i64 t19)] (by kernel_rfl) fun a ha => ?_
  refine hK18 _ _ ?_; clear hK18 K18
  refine wp_seq_k fun K20 hK20 => ?_
  refine wp_region_lit ?_
  refine seg ha 1 [(1, .pointer (some ⟨g9, 0, none⟩)), (2, .int .i64 t16.1), (3, .int .i64 t19), (19, .pointer (some ⟨g9, 0, none⟩))] (by kernel_rfl) fun a ha => ?_
  obtain ⟨t21, H21, H⟩ := bind_some H
  refine cl ha (by rfl) (by kernel_rfl) (by rfl) (by rfl) (by rfl) (cursor_Reader_Num.walk w19 _ hM g9 t16.2 ao17 cap17 f17 hBg9 (ml (List.mem_singleton.2 rfl)) (2 : Int) k _ H21) ?_
  rintro _ w21 ⟨ao22, cap22, rfl, f22, qhBg9, hc21, hMn⟩ a ha
  have o1 : Ok [g9] ([g9] ++ (M)) w19.heap.size := (fun _ h => .inl (ml h))
  have o2 : Ok ([g9] ++ (M)) ([g9] ++ (M)) w19.heap.size := (Ok.app (fun _ h => .inl (ml h)) (fun _ h => .inl (mr (h))))
  have f17 := f17.chg hc21 o1 o2
  have hM : MS ([g9] ++ (M)) w21 := (MS.app (fun x h => hM.chg hc21 x (ml h)) (fun x h => hM.chg hc21 x (mr (h))))
  have hC := hC.trans hc21 (fun x h => .inr (e_i10 x h))
  have hBg9 := qhBg9
  refine seg ha 1 [(1, .pointer (some ⟨g9, 0, none⟩)), (2, .int .i64 t16.1), (3, .int .i64 t19), (4, .int .i64 t21.1)] (by kernel_rfl) fun a ha => ?_
  refine hK20 _ _ ?_; clear hK20 K20
  refine wp_seq_k fun K23 hK23 => ?_
  refine wp_region_lit ?_
  obtain ⟨t24, H24, H⟩ := bind_some H
  refine cl ha (by rfl) (by kernel_rfl) (by rfl) (by rfl) (by rfl) (cursor_Put.walk w21 _ hM ([] : List Int) none 0 (RSl.nil (Nat.zero_le _)) (258 : Int) (2 : Int) k _ H24) ?_
  rintro _ w24 ⟨ao25, cap25, rfl, f25, ne_i25, hc24, hMn⟩ a ha
  have o1 : Ok [] ([g9] ++ (M)) w21.heap.size := Ok.nil _ _
  have o2 : Ok (blkL ao25 ++ ([g9] ++ (M))) ([g9] ++ (M)) w21.heap.size := (Ok.app (fun x h => .inr (ne_i25 x h)) (Ok.app (fun _ h => .inl (ml h)) (fun _ h => .inl (mr (h)))))
  have f22 := f22.chg hc24 o1 o2
  have hBg9 := hBg9.chg hc24 (fun h => nomatch h)
  have nw : Ok (blkL ao25) ([g9] ++ (M)) w21.heap.size := (fun x h => .inr (ne_i25 x h))
  have p_i25_i10 : ∀ x ∈ blkL ao25, x ∉ ([g9]) := fun x hx hy => absurd (hM x (ml hy)) (Nat.not_lt.2 (ne_i25 x hx))
  have p_i25_M : ∀ x ∈ blkL ao25, x ∉ M := fun x hx hy => absurd (hM x (mr (hy))) (Nat.not_lt.2 (ne_i25 x hx))
  have e_i25 : ∀ x ∈ blkL ao25, w.heap.size ≤ x := fun x hx => Nat.le_trans hC.size (ne_i25 x hx)
  have hM : MS (blkL ao25 ++ ([g9] ++ (M))) w24 := (MS.app (fun x h => hMn x (ml h)) (MS.app (fun x h => hM.chg hc24 x (ml h)) (fun x h => hM.chg hc24 x (mr (h)))))
  have hC := hC.trans hc24 (Ok.nil _ _)
  refine seg ha 5 [(1, .pointer (some ⟨g9, 0, none⟩)), (2, .int .i64 t16.1), (3, .int .i64 t19), (4, .int .i64 t21.1), (5, .slice ao25 t24.1.length cap25), (6, .int .i64 t24.2)] (by kernel_rfl) fun a ha => ?_
  refine hK23 _ _ ?_; clear hK23 K23
  refine wp_seq_k fun K26 hK26 => ?_
  refine wp_region_lit ?_
  obtain ⟨t27, H27, H⟩ := bind_some H
  refine cl ha (by rfl) (by kernel_rfl) (by rfl) (by rfl) (by rfl) (cursor_Put.walk w24 _ hM ([] : List Int) none 0 (RSl.nil (Nat.zero_le _)) (256 : Int) (1 : Int) k _ H27) ?_
  rintro _ w27 ⟨ao28, cap28, rfl, f28, ne_i28, hc27, hMn⟩ a ha
  have o1 : Ok [] (blkL ao25 ++ ([g9] ++ (M))) w24.heap.size := Ok.nil _ _
  have o2 : Ok (blkL ao28 ++ (blkL ao25 ++ ([g9] ++ (M)))) (blkL ao25 ++ ([g9] ++ (M))) w24.heap.size := (Ok.app (fun x h => .inr (ne_i28 x h)) (Ok.app (fun _ h => .inl (ml h)) (Ok.app (fun _ h => .inl (mr (ml h))) (fun _ h => .inl (mr (mr (h)))))))
  have f25 := f25.chg hc27 o1 o2 (fun _ _ h => nomatch h) (fun _ h => mr (ml h))
  have f22 := f22.chg hc27 o1 o2
  have hBg9 := hBg9.chg hc27 (fun h => nomatch h)
  have nw : Ok (blkL ao28) (blkL ao25 ++ ([g9] ++ (M))) w24.heap.size := (fun x h => .inr (ne_i28 x h))
  have p_i28_i25 : ∀ x ∈ blkL ao28, x ∉ (blkL ao25) := fun x hx hy => absurd (hM x (ml hy)) (Nat.not_lt.2 (ne_i28 x hx))
  have p_i28_i10 : ∀ x ∈ blkL ao28, x ∉ ([g9]) := fun x hx hy => absurd (hM x (mr (ml hy))) (Nat.not_lt.2 (ne_i28 x hx))
  have p_i28_M : ∀ x ∈ blkL ao28, x ∉ M := fun x hx hy => absurd (hM x (mr (mr (hy)))) (Nat.not_lt.2 (ne_i28 x hx))
  have e_i28 : ∀ x ∈ blkL ao28, w.heap.size ≤ x := fun x hx => Nat.le_trans hC.size (ne_i28 x hx)
  have hM : MS (blkL ao28 ++ (blkL ao25 ++ ([g9] ++ (M)))) w27 := (MS.app (fun x h => hMn x (ml h)) (MS.app (fun x h => hM.chg hc27 x (ml h)) (MS.app (fun x h => hM.chg hc27 x (mr (ml h))) (fun x h => hM.chg hc27 x (mr (mr (h)))))))
  have hC := hC.trans hc27 (Ok.nil _ _)
  refine seg ha 5 [(1, .pointer (some ⟨g9, 0, none⟩)), (2, .int .i64 t16.1), (3, .int .i64 t19), (4, .int .i64 t21.1), (5, .slice ao25 t24.1.length cap25), (6, .int .i64 t24.2), (8, .int .i64 t27.2)] (by kernel_rfl) fun a ha => ?_
  refine hK26 _ _ ?_; clear hK26 K26
  refine wp_seq_k fun K29 hK29 => ?_
  refine wp_region_lit ?_
  obtain ⟨s30, H30, H⟩ := bind_some H
  have J30 : ∀ (a : Act) (w30 : World), Has a Try.f13.ntmps [(0, .bool s30)] → (RSl (rInt .u8) 5 w30 ([g9] ++ (M)) ao22 cap22 t21.2.rest.left) → (Box w30 g9 (cS_cursor_Reader t21.2 ao22 cap22)) → (Chg [] w w30) → (MS ([g9] ++ (M)) w30) → K29 a w30 := by
    intro a w30 ha f22 hBg9 hC hM
    refine hK29 _ _ ?_; clear hK29 K29
    refine wp_ret ?_
    try simp only [Exit.then, Exit.inBlock]
    have o1 : Ok [] ([g9] ++ (M)) w30.heap.size := Ok.nil _ _
    have o2 : Ok (M) ([g9] ++ (M)) w30.heap.size := (fun _ h => .inl (mr (h)))
    have f22 := f22.chg (Chg.refl [] _) o1 o2
    have hBg9 := hBg9.chg (Chg.refl [] _) (fun h => nomatch h)
    have hM : MS (M) w30 := (fun x h => hM.chg (Chg.refl [] _) x (mr (h)))
    have hC := hC.trans (Chg.refl [] _) (Ok.nil _ _)
    obtain rfl := Option.some.inj H
    refine rt1 ha rfl rfl ?_
    exact ⟨rfl, hC, hM⟩
  have H := H30
  refine seg ha 3 [(31, .bool (t16.1 == (258 : Int))), (1, .pointer (some ⟨g9, 0, none⟩)), (3, .int .i64 t19), (4, .int .i64 t21.1), (5, .slice ao25 t24.1.length cap25), (6, .int .i64 t24.2), (8, .int .i64 t27.2)] (by kernel_rfl) fun a ha => ?_
  rcases Bool.eq_false_or_eq_true (t16.1 == (258 : Int)) with hb31 | hb31
  · have ha := ha.lit hb31
    have H := ite_t hb31 H
    refine sgh ha 4 [2, 2, 3, 0] [(35, .bool (t19 == (1 : Int))), (1, .pointer (some ⟨g9, 0, none⟩)), (4, .int .i64 t21.1), (5, .slice ao25 t24.1.length cap25), (6, .int .i64 t24.2), (8, .int .i64 t27.2)] (by kernel_rfl) fun a ha => ?_
    rcases Bool.eq_false_or_eq_true (t19 == (1 : Int)) with hb32 | hb32
    · have ha := ha.lit hb32
      have H := ite_t hb32 H
      refine sgh ha 4 [2, 2, 3, 0] [(39, .bool (t21.1 == (0 : Int))), (1, .pointer (some ⟨g9, 0, none⟩)), (5, .slice ao25 t24.1.length cap25), (6, .int .i64 t24.2), (8, .int .i64 t27.2)] (by kernel_rfl) fun a ha => ?_
      rcases Bool.eq_false_or_eq_true (t21.1 == (0 : Int)) with hb33 | hb33
      · have ha := ha.lit hb33
        have H := ite_t hb33 H
        refine sgh ha 3 [2, 2, 2] [(5, .slice ao25 t24.1.length cap25), (6, .int .i64 t24.2), (8, .int .i64 t27.2), (39, .bool true), (42, .pointer (some ⟨g9, 0, none⟩))] (by kernel_rfl) fun a ha => ?_
        obtain ⟨t34, H34, H⟩ := bind_some H
        refine cl ha (by rfl) (by kernel_rfl) (by rfl) (by rfl) (by rfl) (cursor_rest_Bad.walk w27 _ hM g9 t21.2.rest ao22 cap22 f22 hBg9 (mr (mr (ml (List.mem_singleton.2 rfl)))) _ H34) ?_
        rintro _ w34 ⟨rfl, hc34, hMn⟩ a ha
        have o1 : Ok [] (blkL ao28 ++ (blkL ao25 ++ ([g9] ++ (M)))) w27.heap.size := Ok.nil _ _
        have o2 : Ok (blkL ao28 ++ (blkL ao25 ++ ([g9] ++ (M)))) (blkL ao28 ++ (blkL ao25 ++ ([g9] ++ (M)))) w27.heap.size := (Ok.app (fun _ h => .inl (ml h)) (Ok.app (fun _ h => .inl (mr (ml h))) (Ok.app (fun _ h => .inl (mr (mr (ml h)))) (fun _ h => .inl (mr (mr (mr (h))))))))
        have f25 := f25.chg hc34 o1 o2 (fun _ _ h => nomatch h) (fun _ h => mr (ml h))
        have f22 := f22.chg hc34 o1 o2
        have hBg9 := hBg9.chg hc34 (fun h => nomatch h)
        have hM : MS (blkL ao28 ++ (blkL ao25 ++ ([g9] ++ (M)))) w34 := (MS.app (fun x h => hM.chg hc34 x (ml h)) (MS.app (fun x h => hM.chg hc34 x (mr (ml h))) (MS.app (fun x h => hM.chg hc34 x (mr (mr (ml h)))) (fun x h => hM.chg hc34 x (mr (mr (mr (h))))))))
        have hC := hC.trans hc34 (Ok.nil _ _)
        refine sgh ha 2 [3, 0] [(45, .bool t34), (5, .slice ao25 t24.1.length cap25), (6, .int .i64 t24.2), (8, .int .i64 t27.2)] (by kernel_rfl) fun a ha => ?_
        rcases Bool.eq_false_or_eq_true (t34) with hb35 | hb35
        · have ha := ha.lit hb35
          have H := ite_t hb35 H
          refine sgh ha 4 [2, 2, 3, 0] [(49, .bool (t24.2 == (0 : Int))), (5, .slice ao25 t24.1.length cap25), (8, .int .i64 t27.2)] (by kernel_rfl) fun a ha => ?_
          rcases Bool.eq_false_or_eq_true (t24.2 == (0 : Int)) with hb36 | hb36
          · have ha := ha.lit hb36
            have H := ite_t hb36 H
            refine sgh ha 1 [2] [(8, .int .i64 t27.2), (49, .bool true), (50, .slice ao25 t24.1.length cap25)] (by kernel_rfl) fun a ha => ?_
            refine cvs ha rfl (by kernel_rfl) (by kernel_rfl) (by kernel_rfl) rfl rfl rfl (Own.toRSl (M' := []) f25 (Ok.nil _ _) (fun _ _ h => nomatch h)) fun a ha => ?_
            refine sgh ha 3 [2, 3, 0] [(54, .bool ((bstr (b2s t24.1)).toList == (bstr ([1, 2] : List UInt8)).toList)), (8, .int .i64 t27.2)] (by kernel_rfl) fun a ha => ?_
            rcases Bool.eq_false_or_eq_true ((bstr (b2s t24.1)).toList == (bstr ([1, 2] : List UInt8)).toList) with hb37 | hb37
            · have ha := ha.lit hb37
              have H := ite_t hb37 H
              refine sgh ha 4 [2, 2, 3, 0] [(58, .bool (t27.2 == (5 : Int)))] (by kernel_rfl) fun a ha => ?_
              rcases Bool.eq_false_or_eq_true (t27.2 == (5 : Int)) with hb38 | hb38
              · have ha := ha.lit hb38
                have H := ite_t hb38 H
                refine bsl (vals := ([.int .u8 (97 : Int)] : List Value)) (T := 5) ha rfl (([.int .u8 (97 : Int)] : List Value) ++ ([] : List Value)) (fun w => by kernel_rfl) rfl rfl rfl fun a w39 g40 hN41 ha => ?_
                have o1 : Ok [] (blkL ao28 ++ (blkL ao25 ++ ([g9] ++ (M)))) w34.heap.size := Ok.nil _ _
                have o2 : Ok ([g40] ++ (blkL ao28 ++ (blkL ao25 ++ ([g9] ++ (M))))) (blkL ao28 ++ (blkL ao25 ++ ([g9] ++ (M)))) w34.heap.size := (Ok.app (hN41.ok _) (Ok.app (fun _ h => .inl (ml h)) (Ok.app (fun _ h => .inl (mr (ml h))) (Ok.app (fun _ h => .inl (mr (mr (ml h)))) (fun _ h => .inl (mr (mr (mr (h)))))))))
                have f22 := f22.chg hN41.chg o1 o2
                have hBg9 := hBg9.chg hN41.chg (fun h => nomatch h)
                have nw : Ok ([g40]) (blkL ao28 ++ (blkL ao25 ++ ([g9] ++ (M)))) w34.heap.size := (hN41.ok _)
                have p_i42_i28 : ∀ x ∈ [g40], x ∉ (blkL ao28) := fun x hx hy => absurd (hM x (ml hy)) (Nat.not_lt.2 ((hN41.ge1) x hx))
                have p_i42_i25 : ∀ x ∈ [g40], x ∉ (blkL ao25) := fun x hx hy => absurd (hM x (mr (ml hy))) (Nat.not_lt.2 ((hN41.ge1) x hx))
                have p_i42_i10 : ∀ x ∈ [g40], x ∉ ([g9]) := fun x hx hy => absurd (hM x (mr (mr (ml hy)))) (Nat.not_lt.2 ((hN41.ge1) x hx))
                have p_i42_M : ∀ x ∈ [g40], x ∉ M := fun x hx hy => absurd (hM x (mr (mr (mr (hy))))) (Nat.not_lt.2 ((hN41.ge1) x hx))
                have e_i42 : ∀ x ∈ [g40], w.heap.size ≤ x := fun x hx => Nat.le_trans hC.size ((hN41.ge1) x hx)
                have hM : MS ([g40] ++ (blkL ao28 ++ (blkL ao25 ++ ([g9] ++ (M))))) w39 := (MS.app hN41.ms (MS.app (fun x h => hM.chg hN41.chg x (ml h)) (MS.app (fun x h => hM.chg hN41.chg x (mr (ml h))) (MS.app (fun x h => hM.chg hN41.chg x (mr (mr (ml h)))) (fun x h => hM.chg hN41.chg x (mr (mr (mr (h)))))))))
                have hC := hC.trans hN41.chg (Ok.nil _ _)
                have f43 : Own (rInt .u8) 5 w39 ([g40] ++ (blkL ao28 ++ (blkL ao25 ++ ([g9] ++ (M))))) (some ⟨g40, 0, none⟩) 1 ([(97 : Int)] : List Int) := hN41.own ⟨([.int .u8 (97 : Int)] : List Value), _, rfl, rfl, rfl⟩ (Nat.le_of_ble_eq_true rfl)
                refine cvl ha rfl (by kernel_rfl) (by kernel_rfl) rfl rfl rfl f43 fun a w44 hc45 hL46 ha => ?_
                have nL46 : ∀ x ∈ [g40], x ∉ (blkL ao28 ++ (blkL ao25 ++ ([g9] ++ (M)))) := fun x hx hm => (List.mem_append.1 hm).elim (fun h => p_i42_i28 x hx h) (fun h => (List.mem_append.1 h).elim (fun h => p_i42_i25 x hx h) (fun h => (List.mem_append.1 h).elim (fun h => p_i42_i10 x hx h) (fun h => p_i42_M x hx h)))
                have o1 : Ok [g40] ([g40] ++ (blkL ao28 ++ (blkL ao25 ++ ([g9] ++ (M))))) w39.heap.size := (fun _ h => .inl (ml h))
                have o2 : Ok (blkL ao28 ++ (blkL ao25 ++ ([g9] ++ (M)))) ([g40] ++ (blkL ao28 ++ (blkL ao25 ++ ([g9] ++ (M))))) w39.heap.size := (Ok.app (fun _ h => .inl (mr (ml h))) (Ok.app (fun _ h => .inl (mr (mr (ml h)))) (Ok.app (fun _ h => .inl (mr (mr (mr (ml h))))) (fun _ h => .inl (mr (mr (mr (mr (h)))))))))
                have f22 := f22.chg hc45 o1 o2
                have hBg9 := hBg9.chg hc45 ((fun x hx hy => p_i42_i10 x hy hx) g9 (by simp))
                have hM : MS (blkL ao28 ++ (blkL ao25 ++ ([g9] ++ (M)))) w44 := (MS.app (fun x h => hM.chg hc45 x (mr (ml h))) (MS.app (fun x h => hM.chg hc45 x (mr (mr (ml h)))) (MS.app (fun x h => hM.chg hc45 x (mr (mr (mr (ml h))))) (fun x h => hM.chg hc45 x (mr (mr (mr (mr (h)))))))))
                have hC := hC.trans hc45 (fun x h => .inr (e_i42 x h))
                have f46 := hL46 _ (nL46 _ (by simp))
                refine bsl (vals := ([.int .u8 (97 : Int), .int .u8 (98 : Int)] : List Value)) (T := 5) ha rfl (([.int .u8 (97 : Int)] : List Value) ++ (([.int .u8 (98 : Int)] : List Value) ++ ([] : List Value))) (fun w => by kernel_rfl) rfl rfl rfl fun a w47 g48 hN49 ha => ?_
                have o1 : Ok [] (blkL ao28 ++ (blkL ao25 ++ ([g9] ++ (M)))) w44.heap.size := Ok.nil _ _
                have o2 : Ok ([g48] ++ (blkL ao28 ++ (blkL ao25 ++ ([g9] ++ (M))))) (blkL ao28 ++ (blkL ao25 ++ ([g9] ++ (M)))) w44.heap.size := (Ok.app (hN49.ok _) (Ok.app (fun _ h => .inl (ml h)) (Ok.app (fun _ h => .inl (mr (ml h))) (Ok.app (fun _ h => .inl (mr (mr (ml h)))) (fun _ h => .inl (mr (mr (mr (h)))))))))
                have f46 := f46.chg hN49.chg o1 o2
                have f22 := f22.chg hN49.chg o1 o2
                have hBg9 := hBg9.chg hN49.chg (fun h => nomatch h)
                have nw : Ok ([g48]) (blkL ao28 ++ (blkL ao25 ++ ([g9] ++ (M)))) w44.heap.size := (hN49.ok _)
                have p_i50_i28 : ∀ x ∈ [g48], x ∉ (blkL ao28) := fun x hx hy => absurd (hM x (ml hy)) (Nat.not_lt.2 ((hN49.ge1) x hx))
                have p_i50_i25 : ∀ x ∈ [g48], x ∉ (blkL ao25) := fun x hx hy => absurd (hM x (mr (ml hy))) (Nat.not_lt.2 ((hN49.ge1) x hx))
                have p_i50_i10 : ∀ x ∈ [g48], x ∉ ([g9]) := fun x hx hy => absurd (hM x (mr (mr (ml hy)))) (Nat.not_lt.2 ((hN49.ge1) x hx))
                have p_i50_M : ∀ x ∈ [g48], x ∉ M := fun x hx hy => absurd (hM x (mr (mr (mr (hy))))) (Nat.not_lt.2 ((hN49.ge1) x hx))
                have e_i50 : ∀ x ∈ [g48], w.heap.size ≤ x := fun x hx => Nat.le_trans hC.size ((hN49.ge1) x hx)
                have hM : MS ([g48] ++ (blkL ao28 ++ (blkL ao25 ++ ([g9] ++ (M))))) w47 := (MS.app hN49.ms (MS.app (fun x h => hM.chg hN49.chg x (ml h)) (MS.app (fun x h => hM.chg hN49.chg x (mr (ml h))) (MS.app (fun x h => hM.chg hN49.chg x (mr (mr (ml h)))) (fun x h => hM.chg hN49.chg x (mr (mr (mr (h)))))))))
                have hC := hC.trans hN49.chg (Ok.nil _ _)
                have f51 : Own (rInt .u8) 5 w47 ([g48] ++ (blkL ao28 ++ (blkL ao25 ++ ([g9] ++ (M))))) (some ⟨g48, 0, none⟩) 2 ([(97 : Int), (98 : Int)] : List Int) := hN49.own ⟨([.int .u8 (97 : Int)] : List Value), _, rfl, rfl, ⟨([.int .u8 (98 : Int)] : List Value), _, rfl, rfl, rfl⟩⟩ (Nat.le_of_ble_eq_true rfl)
                refine cvl ha rfl (by kernel_rfl) (by kernel_rfl) rfl rfl rfl f51 fun a w52 hc53 hL54 ha => ?_
                have nL54 : ∀ x ∈ [g48], x ∉ (blkL ao28 ++ (blkL ao25 ++ ([g9] ++ (M)))) := fun x hx hm => (List.mem_append.1 hm).elim (fun h => p_i50_i28 x hx h) (fun h => (List.mem_append.1 h).elim (fun h => p_i50_i25 x hx h) (fun h => (List.mem_append.1 h).elim (fun h => p_i50_i10 x hx h) (fun h => p_i50_M x hx h)))
                have o1 : Ok [g48] ([g48] ++ (blkL ao28 ++ (blkL ao25 ++ ([g9] ++ (M))))) w47.heap.size := (fun _ h => .inl (ml h))
                have o2 : Ok (blkL ao28 ++ (blkL ao25 ++ ([g9] ++ (M)))) ([g48] ++ (blkL ao28 ++ (blkL ao25 ++ ([g9] ++ (M))))) w47.heap.size := (Ok.app (fun _ h => .inl (mr (ml h))) (Ok.app (fun _ h => .inl (mr (mr (ml h)))) (Ok.app (fun _ h => .inl (mr (mr (mr (ml h))))) (fun _ h => .inl (mr (mr (mr (mr (h)))))))))
                have f46 := f46.chg hc53 o1 o2
                have f22 := f22.chg hc53 o1 o2
                have hBg9 := hBg9.chg hc53 ((fun x hx hy => p_i50_i10 x hy hx) g9 (by simp))
                have hM : MS (blkL ao28 ++ (blkL ao25 ++ ([g9] ++ (M)))) w52 := (MS.app (fun x h => hM.chg hc53 x (mr (ml h))) (MS.app (fun x h => hM.chg hc53 x (mr (mr (ml h)))) (MS.app (fun x h => hM.chg hc53 x (mr (mr (mr (ml h))))) (fun x h => hM.chg hc53 x (mr (mr (mr (mr (h)))))))))
                have hC := hC.trans hc53 (fun x h => .inr (e_i50 x h))
                have f54 := hL54 _ (nL54 _ (by simp))
                obtain ⟨t55, H55, H⟩ := bind_some H
                refine cl ha (by rfl) (by kernel_rfl) (by rfl) (by rfl) (by rfl) (cursor_Order.walk w52 _ hM ([(97 : Int)] : List Int) (some ⟨g40, 0, none⟩) 1 f46 ([(97 : Int), (98 : Int)] : List Int) (some ⟨g48, 0, none⟩) 2 f54 _ H55) ?_
                rintro _ w55 ⟨rfl, hc55, hMn⟩ a ha
                have o1 : Ok [] (blkL ao28 ++ (blkL ao25 ++ ([g9] ++ (M)))) w52.heap.size := Ok.nil _ _
                have o2 : Ok (blkL ao28 ++ (blkL ao25 ++ ([g9] ++ (M)))) (blkL ao28 ++ (blkL ao25 ++ ([g9] ++ (M)))) w52.heap.size := (Ok.app (fun _ h => .inl (ml h)) (Ok.app (fun _ h => .inl (mr (ml h))) (Ok.app (fun _ h => .inl (mr (mr (ml h)))) (fun _ h => .inl (mr (mr (mr (h))))))))
                have f46 := f46.chg hc55 o1 o2
                have f54 := f54.chg hc55 o1 o2
                have f22 := f22.chg hc55 o1 o2
                have hBg9 := hBg9.chg hc55 (fun h => nomatch h)
                have hM : MS (blkL ao28 ++ (blkL ao25 ++ ([g9] ++ (M)))) w55 := (MS.app (fun x h => hM.chg hc55 x (ml h)) (MS.app (fun x h => hM.chg hc55 x (mr (ml h))) (MS.app (fun x h => hM.chg hc55 x (mr (mr (ml h)))) (fun x h => hM.chg hc55 x (mr (mr (mr (h))))))))
                have hC := hC.trans hc55 (Ok.nil _ _)
                refine sgh ha 3 [2, 3, 0] [(0, .bool (t55 == (-1 : Int)))] (by kernel_rfl) fun a ha => ?_
                obtain rfl := Option.some.inj H
                have o1 : Ok [] (blkL ao28 ++ (blkL ao25 ++ ([g9] ++ (M)))) w55.heap.size := Ok.nil _ _
                have o2 : Ok ([g9] ++ (M)) (blkL ao28 ++ (blkL ao25 ++ ([g9] ++ (M)))) w55.heap.size := (Ok.app (fun _ h => .inl (mr (mr (ml h)))) (fun _ h => .inl (mr (mr (mr (h))))))
                have f22 := f22.chg (Chg.refl [] _) o1 o2
                have hBg9 := hBg9.chg (Chg.refl [] _) (fun h => nomatch h)
                have hM : MS ([g9] ++ (M)) w55 := (MS.app (fun x h => hM.chg (Chg.refl [] _) x (mr (mr (ml h)))) (fun x h => hM.chg (Chg.refl [] _) x (mr (mr (mr (h))))))
                have hC := hC.trans (Chg.refl [] _) (Ok.nil _ _)
                exact J30 _ _ (ha.sel (by kernel_rfl)) f22 hBg9 hC hM
              · have ha := ha.lit hb38
                have H := ite_f hb38 H
                refine sgh ha 8 [1, 1, 1, 1, 1, 1, 4, 0] [(0, .bool false)] (by kernel_rfl) fun a ha => ?_
                obtain rfl := Option.some.inj H
                have o1 : Ok [] (blkL ao28 ++ (blkL ao25 ++ ([g9] ++ (M)))) w34.heap.size := Ok.nil _ _
                have o2 : Ok ([g9] ++ (M)) (blkL ao28 ++ (blkL ao25 ++ ([g9] ++ (M)))) w34.heap.size := (Ok.app (fun _ h => .inl (mr (mr (ml h)))) (fun _ h => .inl (mr (mr (mr (h))))))
                have f22 := f22.chg (Chg.refl [] _) o1 o2
                have hBg9 := hBg9.chg (Chg.refl [] _) (fun h => nomatch h)
                have hM : MS ([g9] ++ (M)) w34 := (MS.app (fun x h => hM.chg (Chg.refl [] _) x (mr (mr (ml h)))) (fun x h => hM.chg (Chg.refl [] _) x (mr (mr (mr (h))))))
                have hC := hC.trans (Chg.refl [] _) (Ok.nil _ _)
                exact J30 _ _ (ha.sel (by kernel_rfl)) f22 hBg9 hC hM
            · have ha := ha.lit hb37
              have H := ite_f hb37 H
              refine sgh ha 12 [1, 1, 4, 0, 1, 1, 1, 1, 1, 1, 4, 0] [(0, .bool false)] (by kernel_rfl) fun a ha => ?_
              obtain rfl := Option.some.inj H
              have o1 : Ok [] (blkL ao28 ++ (blkL ao25 ++ ([g9] ++ (M)))) w34.heap.size := Ok.nil _ _
              have o2 : Ok ([g9] ++ (M)) (blkL ao28 ++ (blkL ao25 ++ ([g9] ++ (M)))) w34.heap.size := (Ok.app (fun _ h => .inl (mr (mr (ml h)))) (fun _ h => .inl (mr (mr (mr (h))))))
              have f22 := f22.chg (Chg.refl [] _) o1 o2
              have hBg9 := hBg9.chg (Chg.refl [] _) (fun h => nomatch h)
              have hM : MS ([g9] ++ (M)) w34 := (MS.app (fun x h => hM.chg (Chg.refl [] _) x (mr (mr (ml h)))) (fun x h => hM.chg (Chg.refl [] _) x (mr (mr (mr (h))))))
              have hC := hC.trans (Chg.refl [] _) (Ok.nil _ _)
              exact J30 _ _ (ha.sel (by kernel_rfl)) f22 hBg9 hC hM
          · have ha := ha.lit hb36
            have H := ite_f hb36 H
            refine sgh ha 17 [1, 1, 1, 4, 0, 1, 1, 4, 0, 1, 1, 1, 1, 1, 1, 4, 0] [(0, .bool false)] (by kernel_rfl) fun a ha => ?_
            obtain rfl := Option.some.inj H
            have o1 : Ok [] (blkL ao28 ++ (blkL ao25 ++ ([g9] ++ (M)))) w34.heap.size := Ok.nil _ _
            have o2 : Ok ([g9] ++ (M)) (blkL ao28 ++ (blkL ao25 ++ ([g9] ++ (M)))) w34.heap.size := (Ok.app (fun _ h => .inl (mr (mr (ml h)))) (fun _ h => .inl (mr (mr (mr (h))))))
            have f22 := f22.chg (Chg.refl [] _) o1 o2
            have hBg9 := hBg9.chg (Chg.refl [] _) (fun h => nomatch h)
            have hM : MS ([g9] ++ (M)) w34 := (MS.app (fun x h => hM.chg (Chg.refl [] _) x (mr (mr (ml h)))) (fun x h => hM.chg (Chg.refl [] _) x (mr (mr (mr (h))))))
            have hC := hC.trans (Chg.refl [] _) (Ok.nil _ _)
            exact J30 _ _ (ha.sel (by kernel_rfl)) f22 hBg9 hC hM
        · have ha := ha.lit hb35
          have H := ite_f hb35 H
          refine sgh ha 21 [1, 1, 4, 0, 1, 1, 1, 4, 0, 1, 1, 4, 0, 1, 1, 1, 1, 1, 1, 4, 0] [(0, .bool false)] (by kernel_rfl) fun a ha => ?_
          obtain rfl := Option.some.inj H
          have o1 : Ok [] (blkL ao28 ++ (blkL ao25 ++ ([g9] ++ (M)))) w34.heap.size := Ok.nil _ _
          have o2 : Ok ([g9] ++ (M)) (blkL ao28 ++ (blkL ao25 ++ ([g9] ++ (M)))) w34.heap.size := (Ok.app (fun _ h => .inl (mr (mr (ml h)))) (fun _ h => .inl (mr (mr (mr (h))))))
          have f22 := f22.chg (Chg.refl [] _) o1 o2
          have hBg9 := hBg9.chg (Chg.refl [] _) (fun h => nomatch h)
          have hM : MS ([g9] ++ (M)) w34 := (MS.app (fun x h => hM.chg (Chg.refl [] _) x (mr (mr (ml h)))) (fun x h => hM.chg (Chg.refl [] _) x (mr (mr (mr (h))))))
          have hC := hC.trans (Chg.refl [] _) (Ok.nil _ _)
          exact J30 _ _ (ha.sel (by kernel_rfl)) f22 hBg9 hC hM
      · have ha := ha.lit hb33
        have H := ite_f hb33 H
        refine sgh ha 27 [1, 1, 1, 1, 4, 0, 1, 1, 4, 0, 1, 1, 1, 4, 0, 1, 1, 4, 0, 1, 1, 1, 1, 1, 1, 4, 0] [(0, .bool false)] (by kernel_rfl) fun a ha => ?_
        obtain rfl := Option.some.inj H
        have o1 : Ok [] (blkL ao28 ++ (blkL ao25 ++ ([g9] ++ (M)))) w27.heap.size := Ok.nil _ _
        have o2 : Ok ([g9] ++ (M)) (blkL ao28 ++ (blkL ao25 ++ ([g9] ++ (M)))) w27.heap.size := (Ok.app (fun _ h => .inl (mr (mr (ml h)))) (fun _ h => .inl (mr (mr (mr (h))))))
        have f22 := f22.chg (Chg.refl [] _) o1 o2
        have hBg9 := hBg9.chg (Chg.refl [] _) (fun h => nomatch h)
        have hM : MS ([g9] ++ (M)) w27 := (MS.app (fun x h => hM.chg (Chg.refl [] _) x (mr (mr (ml h)))) (fun x h => hM.chg (Chg.refl [] _) x (mr (mr (mr (h))))))
        have hC := hC.trans (Chg.refl [] _) (Ok.nil _ _)
        exact J30 _ _ (ha.sel (by kernel_rfl)) f22 hBg9 hC hM
    · have ha := ha.lit hb32
      have H := ite_f hb32 H
      refine sgh ha 31 [1, 1, 4, 0, 1, 1, 1, 1, 4, 0, 1, 1, 4, 0, 1, 1, 1, 4, 0, 1, 1, 4, 0, 1, 1, 1, 1, 1, 1, 4, 0] [(0, .bool false)] (by kernel_rfl) fun a ha => ?_
      obtain rfl := Option.some.inj H
      have o1 : Ok [] (blkL ao28 ++ (blkL ao25 ++ ([g9] ++ (M)))) w27.heap.size := Ok.nil _ _
      have o2 : Ok ([g9] ++ (M)) (blkL ao28 ++ (blkL ao25 ++ ([g9] ++ (M)))) w27.heap.size := (Ok.app (fun _ h => .inl (mr (mr (ml h)))) (fun _ h => .inl (mr (mr (mr (h))))))
      have f22 := f22.chg (Chg.refl [] _) o1 o2
      have hBg9 := hBg9.chg (Chg.refl [] _) (fun h => nomatch h)
      have hM : MS ([g9] ++ (M)) w27 := (MS.app (fun x h => hM.chg (Chg.refl [] _) x (mr (mr (ml h)))) (fun x h => hM.chg (Chg.refl [] _) x (mr (mr (mr (h))))))
      have hC := hC.trans (Chg.refl [] _) (Ok.nil _ _)
      exact J30 _ _ (ha.sel (by kernel_rfl)) f22 hBg9 hC hM
  · have ha := ha.lit hb31
    have H := ite_f hb31 H
    refine sgh ha 35 [1, 1, 4, 0, 1, 1, 4, 0, 1, 1, 1, 1, 4, 0, 1, 1, 4, 0, 1, 1, 1, 4, 0, 1, 1, 4, 0, 1, 1, 1, 1, 1, 1, 4, 0] [(0, .bool false)] (by kernel_rfl) fun a ha => ?_
    obtain rfl := Option.some.inj H
    have o1 : Ok [] (blkL ao28 ++ (blkL ao25 ++ ([g9] ++ (M)))) w27.heap.size := Ok.nil _ _
    have o2 : Ok ([g9] ++ (M)) (blkL ao28 ++ (blkL ao25 ++ ([g9] ++ (M)))) w27.heap.size := (Ok.app (fun _ h => .inl (mr (mr (ml h)))) (fun _ h => .inl (mr (mr (mr (h))))))
    have f22 := f22.chg (Chg.refl [] _) o1 o2
    have hBg9 := hBg9.chg (Chg.refl [] _) (fun h => nomatch h)
    have hM : MS ([g9] ++ (M)) w27 := (MS.app (fun x h => hM.chg (Chg.refl [] _) x (mr (mr (ml h)))) (fun x h => hM.chg (Chg.refl [] _) x (mr (mr (mr (h))))))
    have hC := hC.trans (Chg.refl [] _) (Ok.nil _ _)
    exact J30 _ _ (ha.sel (by kernel_rfl)) f22 hBg9 hC hM

theorem Lent.go (w : World) (M : List Nat) (hM : MS M w) (a0 : List Int) (ao1 : Option Addr) (cap1 : Nat) (f1 : RSl (rInt .u8) 5 w M ao1 cap1 a0) (hb : a0.length ≤ 281474976710655) :
    To Try.prog 14 [.slice ao1 a0.length cap1] w fun v w' => ∃ (g : Nat), v = .slice (some ⟨g, 0, none⟩) a0.length (a0.length + 1) ∧ Box w' g (a0.map (.int .u8) ++ [.int .u8 77]) ∧ (w.heap.size ≤ g) ∧ Chg [] w w' ∧ MS ([g] ++ M) w' := by
  have hmax : maxLen = 9223372036854775807 := rfl
  refine ent Try.func14 rfl [(0, .slice ao1 a0.length cap1)] rfl rfl fun a ha => ?_
  refine wp_seq_k fun K hK => ?_
  refine wp_region_lit ?_
  refine seg ha 1 [(0, .slice ao1 a0.length cap1)] (by kernel_rfl) fun a ha => ?_
  refine hK _ _ ?_; clear hK K
  refine wp_seq_k fun K hK => ?_
  refine wp_region_lit ?_
  refine seg ha 5 [(0, .slice ao1 a0.length cap1), (5, .int .i64 a0.length), (8, .int .i64 (IntKind.i64.wrap ((a0.length : Int) + 1)))] (by kernel_rfl) fun a ha => ?_
  have e8 : IntKind.i64.wrap ((a0.length : Int) + 1) = ((a0.length + 1 : Nat) : Int) := by rw [IntKind.wrap_i64]; omega
  rw [e8] at ha
  refine mks (e := 5) (z := .int .u8 0) (nb := 1) ha (by kernel_rfl) (by kernel_rfl) (by kernel_rfl) rfl rfl rfl (Nat.le_succ _) (by omega) (by omega) rfl rfl rfl fun a w1 g hN ha => ?_
  refine seg ha 1 [(0, .slice ao1 a0.length cap1), (3, .slice (some ⟨g, 0, none⟩) a0.length (a0.length + 1))] (by kernel_rfl) fun a ha => ?_
  refine hK _ _ ?_; clear hK K
  have h1 : RSl (rInt .u8) 5 w1 ([g] ++ M) ao1 cap1 a0 := f1.chg hN.chg (Ok.nil _ _) (Ok.app (hN.ok _) (Ok.refl _ _))
  refine wp_seq_k fun K hK => ?_
  refine wp_region_lit ?_
  refine seg ha 2 [(0, .slice ao1 a0.length cap1), (3, .slice (some ⟨g, 0, none⟩) a0.length (a0.length + 1)), (10, .slice (some ⟨g, 0, none⟩) a0.length (a0.length + 1)), (11, .slice ao1 a0.length cap1)] (by kernel_rfl) fun a ha => ?_
  refine cpy ha (by kernel_rfl) (by kernel_rfl) rfl rfl rfl rfl rfl hN.box h1 (Nat.le_refl _) (by simp) fun a w2 hB hc2 ha => ?_
  refine wpl_end ?_
  have ha := ha.sel (env' := [(0, .slice ao1 a0.length cap1), (3, .slice (some ⟨g, 0, none⟩) a0.length (a0.length + 1))]) (by kernel_rfl)
  refine hK _ _ ?_; clear hK K
  refine wp_seq_k fun K hK => ?_
  refine wp_region_lit ?_
  refine seg ha 4 [(0, .slice ao1 a0.length cap1), (3, .slice (some ⟨g, 0, none⟩) a0.length (a0.length + 1)), (13, .slice (some ⟨g, 0, none⟩) a0.length (a0.length + 1)), (16, .int .i64 (IntKind.i64.wrap ((a0.length : Int) + 1)))] (by kernel_rfl) fun a ha => ?_
  rw [e8] at ha
  refine slx (T := 5) (s := 1) ha (by kernel_rfl) (by kernel_rfl) rfl rfl (Nat.le_refl _) rfl rfl rfl fun a ha => ?_
  refine seg ha 2 [(3, .slice (some ⟨g, 0, none⟩) a0.length (a0.length + 1)), (17, .slice (some ⟨g, 0, none⟩) (a0.length + 1) (a0.length + 1)), (19, .int .i64 a0.length)] (by kernel_rfl) fun a ha => ?_
  have hl : (List.replicate (a0.length + 1) (0 : Int)).length = a0.length + 1 := by simp
  refine hop (v := .pointer (some ⟨g, 0 + Int.toNat (a0.length : Int) * (rInt .u8).sz, none⟩)) (w' := w2) ha rfl rfl rfl (ix_run (r := rInt .u8) (T := 5) (xs := List.replicate (a0.length + 1) (0 : Int)) (k := .i64) (i := (a0.length : Int)) ha (by kernel_rfl) (by kernel_rfl) (by rw [hl]; rfl) rfl rfl (by omega) (by rw [hl]; omega)) fun a ha => ?_
  refine st (cs := a0.map (.int .u8) ++ (List.replicate (a0.length + 1) (Value.int .u8 0)).drop a0.length) (g := g) (o' := a0.length) ha rfl rfl (by simp [rInt]) (by kernel_rfl) rfl rfl hB (by simp) fun a w3 ha hB3 hc3 _ => ?_
  refine wpl_end ?_
  have ha := ha.sel (env' := [(3, .slice (some ⟨g, 0, none⟩) a0.length (a0.length + 1))]) (by kernel_rfl)
  refine hK _ _ ?_; clear hK K
  refine wp_seq_k fun K hK => ?_
  refine wp_region_lit ?_
  refine seg ha 2 [(2, .slice (some ⟨g, 0, none⟩) a0.length (a0.length + 1))] (by kernel_rfl) fun a ha => ?_
  refine hK _ _ ?_; clear hK K
  refine wp_ret ?_
  refine rt1 ha rfl rfl ⟨g, rfl, ?_, hN.ge, ?_, ?_⟩
  · have e : (a0.map (Value.int .u8) ++ (List.replicate (a0.length + 1) (Value.int .u8 0)).drop a0.length).set a0.length (.int .u8 77) = a0.map (Value.int .u8) ++ [Value.int .u8 77] := by
      have : (List.replicate (a0.length + 1) (Value.int .u8 0)).drop a0.length = [Value.int .u8 0] := by simp [List.drop_replicate]
      rw [this, List.set_append_right _ _ (by simp)]
      simp
    rw [e] at hB3
    exact hB3
  · exact (hN.chg.trans hc2 (Ok.one (.inr hN.ge))).trans hc3 (Ok.one (.inr hN.ge))
  · exact MS.app (fun x hx => by simp at hx; subst hx; exact hB3.lt) (((hM.chg hN.chg).chg hc2).chg hc3)
def Lent.f (a0 : List Int) : Option (List Int) := if a0.length ≤ 281474976710655 then some a0 else none
theorem Lent.walk (w : World) (M : List Nat) (hM : MS M w) (a0 : List Int) (ao1 : Option Addr) (cap1 : Nat) (f1 : RSl (rInt .u8) 5 w M ao1 cap1 a0) (r : List Int) (H : Lent.f a0 = some r) :
    To Try.prog 14 [.slice ao1 a0.length cap1] w fun v w' => ∃ (ao2 : Option Addr) (cap2 : Nat), v = .slice ao2 r.length cap2 ∧ (Len w' (blkL ao2 ++ M) ao2 cap2 r) ∧ (∀ x ∈ blkL ao2, w.heap.size ≤ x) ∧ Chg [] w w' ∧ MS (blkL ao2 ++ M) w' := by
  unfold Lent.f at H
  obtain ⟨hb, H⟩ := ite_some H
  obtain rfl := Option.some.inj H
  refine (Lent.go w M hM a0 ao1 cap1 f1 hb).mono ?_
  rintro v w' ⟨g, rfl, hB, hge, hc, hm⟩
  exact ⟨some ⟨g, 0, none⟩, a0.length + 1, rfl, ⟨g, rfl, List.mem_append_left _ (List.mem_singleton.2 rfl), rfl, hb, hB⟩, fun x hx => by simp [blkL] at hx; subst hx; exact hge, hc, hm⟩

def vineryref01_Bytes.l0 (a0 : Int) : Nat → (List Int) → Int → Option (List Int)
  | 0, _, _ => none
  | kk + 1, x7, x8 => (if (decide (x8 ≥ (0 : Int))) = true then (if 0 ≤ (IntKind.i64.wrap ((8 : Int) * x8)) then (if (x7.length + ([IntKind.u8.wrap (Int.fdiv a0 (2 ^ (min (Int.toNat (IntKind.i64.wrap ((8 : Int) * x8))) IntKind.i64.bits)))] : List Int).length) * 1 ≤ 140737488355328 then vineryref01_Bytes.l0 a0 kk (x7 ++ ([IntKind.u8.wrap (Int.fdiv a0 (2 ^ (min (Int.toNat (IntKind.i64.wrap ((8 : Int) * x8))) IntKind.i64.bits)))] : List Int)) (IntKind.i64.wrap (x8 - (1 : Int))) else none) else none) else some (x7 : List Int))
def vineryref01_Bytes.f (k : Nat) (a0 : Int) (a1 : Int) : Option (List Int) := (vineryref01_Bytes.l0 a0 k ([] : List Int) (IntKind.i64.wrap (a1 - (1 : Int)))).bind fun s5 => some ((s5 : List Int))
set_option maxRecDepth 100000 in
theorem vineryref01_Bytes.walk (w : World) (M : List Nat) (hM : MS M w) (a0 : Int) (a1 : Int) (k : Nat) (r : List Int) (H : vineryref01_Bytes.f k a0 a1 = some r) :
    To Try.prog 47 [.int .i64 a0, .int .i64 a1] w fun v w' => ∃ (ao25 : Option Addr) (cap25 : Nat), v = .slice ao25 r.length cap25 ∧ (Own (rInt .u8) 5 w' (blkL ao25 ++ (M)) ao25 cap25 r) ∧ (∀ x ∈ blkL ao25, w.heap.size ≤ x) ∧ Chg [] w w' ∧ MS (blkL ao25 ++ (M)) w' := by
  unfold vineryref01_Bytes.f at H
  refine ent Try.func47 rfl [(0, .int .i64 a0), (1, .int .i64 a1)] rfl (by rfl) fun a ha => ?_
  have hC : Chg [] w w := Chg.refl _ _
  refine wp_seq_k fun K1 hK1 => ?_
  refine wp_region_lit ?_
  refine seg ha 1 [(0, .int .i64 a0), (1, .int .i64 a1)] (by kernel_rfl) fun a ha => ?_
  refine hK1 _ _ ?_; clear hK1 K1
  refine wp_seq_k fun K2 hK2 => ?_
  refine wp_region_lit ?_
  refine seg ha 1 [(0, .int .i64 a0), (1, .int .i64 a1), (5, .slice none 0 0)] (by kernel_rfl) fun a ha => ?_
  refine hK2 _ _ ?_; clear hK2 K2
  refine wp_seq_k fun K3 hK3 => ?_
  refine wp_seq_k fun K4 hK4 => ?_
  refine wp_region_lit ?_
  refine seg ha 3 [(0, .int .i64 a0), (5, .slice none 0 0), (6, .int .i64 (IntKind.i64.wrap (a1 - (1 : Int))))] (by kernel_rfl) fun a ha => ?_
  refine hK4 _ _ ?_; clear hK4 K4
  refine wp_block ?_
  obtain ⟨s5, H5, H⟩ := bind_some H
  have J5 : ∀ (a : Act) (wx5 : World) (ao9 : Option Addr) (cap9 : Nat), Has a Try.f47.ntmps [(5, .slice ao9 s5.length cap9)] → (Own (rInt .u8) 5 wx5 (blkL ao9 ++ (M)) ao9 cap9 s5) → (∀ x ∈ blkL ao9, w.heap.size ≤ x) → (∀ x ∈ blkL ao9, x ∉ M) → (Chg [] w wx5) → (MS (blkL ao9 ++ (M)) wx5) → K3 a wx5 := by
    intro a wx5 ao9 cap9 ha f9 e_i9 p_i9_M hC hM
    refine hK3 _ _ ?_; clear hK3 K3
    refine wp_seq_k fun K10 hK10 => ?_
    refine wp_region_lit ?_
    refine seg ha 2 [(4, .slice ao9 s5.length cap9)] (by kernel_rfl) fun a ha => ?_
    refine hK10 _ _ ?_; clear hK10 K10
    refine wp_ret ?_
    try simp only [Exit.then, Exit.inBlock]
    obtain rfl := Option.some.inj H
    refine rt1 ha rfl rfl ?_
    exact ⟨ao9, cap9, rfl, f9, e_i9, hC, hM⟩
  have Hc5 := H
  have H := H5
  refine wp_loop_ghost (fun kk a w5 => ∃ (x7 : List Int) (x8 : Int) (ao6 : Option Addr) (cap6 : Nat), vineryref01_Bytes.l0 a0 kk x7 x8 = some s5 ∧ Has a Try.f47.ntmps [(0, .int .i64 a0), (5, .slice ao6 x7.length cap6), (6, .int .i64 x8)] ∧ (Own (rInt .u8) 5 w5 (blkL ao6 ++ (M)) ao6 cap6 x7) ∧ (∀ x ∈ blkL ao6, w.heap.size ≤ x) ∧ (∀ x ∈ blkL ao6, x ∉ M) ∧ (Chg [] w w5) ∧ (MS (blkL ao6 ++ (M)) w5)) k ?_ ?_
  · skip
    have o1 : Ok [] (M) w.heap.size := Ok.nil _ _
    have o2 : Ok (blkL none ++ (M)) (M) w.heap.size := (Ok.app (fun _ h => nomatch h) (fun _ h => .inl (h)))
    have nw : Ok (blkL none) (M) w.heap.size := (fun _ h => nomatch h)
    have p_z11_M : ∀ x ∈ blkL none, x ∉ M := fun x hx hy => absurd (hM x (hy)) (Nat.not_lt.2 ((fun _ h => nomatch h) x hx))
    have e_z11 : ∀ x ∈ blkL none, w.heap.size ≤ x := fun x hx => Nat.le_trans hC.size ((fun _ h => nomatch h) x hx)
    have hM : MS (blkL none ++ (M)) w := (MS.app (fun _ h => nomatch h) (fun x h => hM.chg (Chg.refl [] _) x (h)))
    have hC := hC.trans (Chg.refl [] _) (Ok.nil _ _)
    exact ⟨([] : List Int), IntKind.i64.wrap (a1 - (1 : Int)), none, 0, H, (ha.sel (by kernel_rfl)), Own.nil, e_z11, p_z11_M, hC, hM⟩
  · rintro kk a w5 ⟨x7, x8, ao6, cap6, H, ha, f6, e_i6, p_i6_M, hC, hM⟩
    obtain _ | kk := kk
    · exact nomatch (show none = some _ from H)
    rw [vineryref01_Bytes.l0] at H
    refine wp_seq_k fun K12 hK12 => ?_
    refine wp_seq_k fun K13 hK13 => ?_
    refine wp_region_lit ?_
    refine seg ha 2 [(0, .int .i64 a0), (5, .slice ao6 x7.length cap6), (6, .int .i64 x8), (10, .bool (decide (x8 ≥ (0 : Int))))] (by kernel_rfl) fun a ha => ?_
    refine hK13 _ _ ?_; clear hK13 K13
    refine cnd ha rfl (fun hc14 => ?_) (fun hc14 => ?_)
    · have H := ite_t hc14 H
      refine wp_skip ?_
      refine hK12 _ _ ?_; clear hK12 K12
      refine wp_seq_k fun K15 hK15 => ?_
      refine wp_block ?_
      refine wp_region_lit ?_
      refine seg ha 4 [(0, .int .i64 a0), (6, .int .i64 x8), (13, .slice ao6 x7.length cap6), (14, .int .i64 a0), (16, .int .i64 (IntKind.i64.wrap ((8 : Int) * x8)))] (by kernel_rfl) fun a ha => ?_
      obtain ⟨hx16, H⟩ := ite_some H
      refine shr ha rfl rfl rfl rfl rfl hx16 fun a ha => ?_
      refine seg ha 1 [(0, .int .i64 a0), (6, .int .i64 x8), (13, .slice ao6 x7.length cap6), (18, .int .u8 (IntKind.u8.wrap (Int.fdiv a0 (2 ^ (min (Int.toNat (IntKind.i64.wrap ((8 : Int) * x8))) IntKind.i64.bits)))))] (by kernel_rfl) fun a ha => ?_
      refine bsl (vals := ([.int .u8 (IntKind.u8.wrap (Int.fdiv a0 (2 ^ (min (Int.toNat (IntKind.i64.wrap ((8 : Int) * x8))) IntKind.i64.bits))))] : List Value)) (T := 5) ha rfl (([.int .u8 (IntKind.u8.wrap (Int.fdiv a0 (2 ^ (min (Int.toNat (IntKind.i64.wrap ((8 : Int) * x8))) IntKind.i64.bits))))] : List Value) ++ ([] : List Value)) (fun w => by kernel_rfl) rfl rfl rfl fun a w17 g18 hN19 ha => ?_
      have o1 : Ok [] (blkL ao6 ++ (M)) w5.heap.size := Ok.nil _ _
      have o2 : Ok ([g18] ++ (blkL ao6 ++ (M))) (blkL ao6 ++ (M)) w5.heap.size := (Ok.app (hN19.ok _) (Ok.app (fun _ h => .inl (ml h)) (fun _ h => .inl (mr (h)))))
      have f6 := f6.chg hN19.chg o1 o2 (fun _ _ h => nomatch h) (fun _ h => mr (ml h))
      have nw : Ok ([g18]) (blkL ao6 ++ (M)) w5.heap.size := (hN19.ok _)
      have p_i20_i6 : ∀ x ∈ [g18], x ∉ (blkL ao6) := fun x hx hy => absurd (hM x (ml hy)) (Nat.not_lt.2 ((hN19.ge1) x hx))
      have p_i20_M : ∀ x ∈ [g18], x ∉ M := fun x hx hy => absurd (hM x (mr (hy))) (Nat.not_lt.2 ((hN19.ge1) x hx))
      have e_i20 : ∀ x ∈ [g18], w.heap.size ≤ x := fun x hx => Nat.le_trans hC.size ((hN19.ge1) x hx)
      have hM : MS ([g18] ++ (blkL ao6 ++ (M))) w17 := (MS.app hN19.ms (MS.app (fun x h => hM.chg hN19.chg x (ml h)) (fun x h => hM.chg hN19.chg x (mr (h)))))
      have hC := hC.trans hN19.chg (Ok.nil _ _)
      have f21 : Own (rInt .u8) 5 w17 ([g18] ++ (blkL ao6 ++ (M))) (some ⟨g18, 0, none⟩) 1 ([IntKind.u8.wrap (Int.fdiv a0 (2 ^ (min (Int.toNat (IntKind.i64.wrap ((8 : Int) * x8))) IntKind.i64.bits)))] : List Int) := hN19.own ⟨([.int .u8 (IntKind.u8.wrap (Int.fdiv a0 (2 ^ (min (Int.toNat (IntKind.i64.wrap ((8 : Int) * x8))) IntKind.i64.bits))))] : List Value), _, rfl, rfl, rfl⟩ (Nat.le_of_ble_eq_true rfl)
      obtain ⟨hx22, H⟩ := ite_some H
      refine app (r := (rInt .u8)) (xs := x7) (ys := ([IntKind.u8.wrap (Int.fdiv a0 (2 ^ (min (Int.toNat (IntKind.i64.wrap ((8 : Int) * x8))) IntKind.i64.bits)))] : List Int)) ha (ElemT.mk' (bytes := 1) (by kernel_rfl)) rfl rfl rfl rfl rfl f6 f21.src hx22 (by decide) fun a w23 ao24 cap24 hO24 hc24 hk24 hl24 ha => ?_
      have o1 : Ok (blkL ao6) ([g18] ++ (blkL ao6 ++ (M))) w17.heap.size := (fun _ h => .inl (mr (ml h)))
      have o2 : Ok (blkL ao24 ++ ([g18] ++ (M))) ([g18] ++ (blkL ao6 ++ (M))) w17.heap.size := (Ok.app (Ok.to hk24 (fun _ h => mr (ml h))) (Ok.app (fun _ h => .inl (ml h)) (fun _ h => .inl (mr (mr (h))))))
      have f21 := f21.chg hc24 o1 o2 p_i20_i6 (fun _ h => mr (ml h))
      have nw : Ok (blkL ao24) ([g18] ++ (blkL ao6 ++ (M))) w17.heap.size := (Ok.to hk24 (fun _ h => mr (ml h)))
      have p_i24_i20 : ∀ x ∈ blkL ao24, x ∉ ([g18]) := fun x hx hy => (hk24 x hx).elim (fun h => (fun x hx hy => p_i20_i6 x hy hx) x h hy) (fun h => absurd (hM x (ml hy)) (Nat.not_lt.2 h))
      have p_i24_M : ∀ x ∈ blkL ao24, x ∉ M := fun x hx hy => (hk24 x hx).elim (fun h => p_i6_M x h hy) (fun h => absurd (hM x (mr (mr (hy)))) (Nat.not_lt.2 h))
      have e_i24 : ∀ x ∈ blkL ao24, w.heap.size ≤ x := fun x hx => (hk24 x hx).elim (e_i6 x) (Nat.le_trans hC.size)
      have hM : MS (blkL ao24 ++ ([g18] ++ (M))) w23 := (MS.app hl24 (MS.app (fun x h => hM.chg hc24 x (ml h)) (fun x h => hM.chg hc24 x (mr (mr (h))))))
      have hC := hC.trans hc24 (fun x h => .inr (e_i6 x h))
      have f24 := hO24.chg (M' := blkL ao24 ++ ([g18] ++ (M))) (Chg.refl [] _) (Ok.nil _ _) (Ok.app (fun _ h => .inl (ml h)) (Ok.to (Ok.app (fun _ h => .inl (ml h)) (fun _ h => .inl (mr (mr (h))))) (fun _ h => mr h))) (fun _ _ h => nomatch h) (fun _ h => ml h)
      refine seg ha 1 [(0, .int .i64 a0), (5, .slice ao24 (x7 ++ ([IntKind.u8.wrap (Int.fdiv a0 (2 ^ (min (Int.toNat (IntKind.i64.wrap ((8 : Int) * x8))) IntKind.i64.bits)))] : List Int)).length cap24), (6, .int .i64 x8)] (by kernel_rfl) fun a ha => ?_
      refine hK15 _ _ ?_; clear hK15 K15
      refine wp_region_lit ?_
      refine seg ha 3 [(0, .int .i64 a0), (5, .slice ao24 (x7 ++ ([IntKind.u8.wrap (Int.fdiv a0 (2 ^ (min (Int.toNat (IntKind.i64.wrap ((8 : Int) * x8))) IntKind.i64.bits)))] : List Int)).length cap24), (6, .int .i64 (IntKind.i64.wrap (x8 - (1 : Int))))] (by kernel_rfl) fun a ha => ?_
      have o1 : Ok [] (blkL ao24 ++ ([g18] ++ (M))) w23.heap.size := Ok.nil _ _
      have o2 : Ok (blkL ao24 ++ (M)) (blkL ao24 ++ ([g18] ++ (M))) w23.heap.size := (Ok.app (fun _ h => .inl (ml h)) (fun _ h => .inl (mr (mr (h)))))
      have f24 := f24.chg (Chg.refl [] _) o1 o2 (fun _ _ h => nomatch h) (fun _ h => ml h)
      have hM : MS (blkL ao24 ++ (M)) w23 := (MS.app (fun x h => hM.chg (Chg.refl [] _) x (ml h)) (fun x h => hM.chg (Chg.refl [] _) x (mr (mr (h)))))
      have hC := hC.trans (Chg.refl [] _) (Ok.nil _ _)
      exact ⟨kk, Nat.lt_succ_self _, ⟨(x7 ++ ([IntKind.u8.wrap (Int.fdiv a0 (2 ^ (min (Int.toNat (IntKind.i64.wrap ((8 : Int) * x8))) IntKind.i64.bits)))] : List Int)), IntKind.i64.wrap (x8 - (1 : Int)), ao24, cap24, H, (ha.sel (by kernel_rfl)), f24, e_i24, p_i24_M, hC, hM⟩⟩
    · have H := ite_f hc14 H
      refine wp_exit ?_
      simp only [Exit.then, Exit.inBlock, ↓reduceIte, Nat.reduceEqDiff]
      obtain rfl := Option.some.inj H
      exact J5 _ _ ao6 cap6 (ha.sel (by kernel_rfl)) f6 e_i6 p_i6_M hC hM
def vineryref01_Put.f (k : Nat) (a0 : List Int) (a1 : Int) (a2 : Int) : Option (List Int × Int) := (if (if (decide (a2 < (1 : Int))) = true then true else (decide (a2 > (4 : Int)))) = true then some ((([] : List Int) : List Int), ((1 : Int) : Int)) else ((if (decide (a1 < (0 : Int))) = true then some (true : Bool) else (if 0 ≤ (IntKind.i64.wrap ((8 : Int) * a2)) then some (decide (a1 ≥ (IntKind.i64.wrap ((1 : Int) * 2 ^ (min (Int.toNat (IntKind.i64.wrap ((8 : Int) * a2))) IntKind.i64.bits)))) : Bool) else none))).bind fun s10 => (if s10 = true then some ((([] : List Int) : List Int), ((5 : Int) : Int)) else (if (([] : List Int).length + a0.length) * 1 ≤ 140737488355328 then (vineryref01_Bytes.f k a1 a2).bind fun t23 => (if ((([] : List Int) ++ a0).length + t23.length) * 1 ≤ 140737488355328 then some ((((([] : List Int) ++ a0) ++ t23) : List Int), ((0 : Int) : Int)) else none) else none)))
set_option maxRecDepth 100000 in
theorem vineryref01_Put.walk (w : World) (M : List Nat) (hM : MS M w) (a0 : List Int) (ao1 : Option Addr) (cap1 : Nat) (f1 : RSl (rInt .u8) 5 w M ao1 cap1 a0) (a1 : Int) (a2 : Int) (k : Nat) (r : List Int × Int) (H : vineryref01_Put.f k a0 a1 a2 = some r) :
    To Try.prog 16 [.slice ao1 a0.length cap1, .int .i64 a1, .int .i64 a2] w fun v w' => ∃ (ao30 : Option Addr) (cap30 : Nat), v = .tuple #[.slice ao30 r.1.length cap30, .int .i64 r.2] ∧ (Own (rInt .u8) 5 w' (blkL ao30 ++ (M)) ao30 cap30 r.1) ∧ (∀ x ∈ blkL ao30, w.heap.size ≤ x) ∧ Chg [] w w' ∧ MS (blkL ao30 ++ (M)) w' := by
  unfold vineryref01_Put.f at H
  refine ent Try.func16 rfl [(0, .slice ao1 a0.length cap1), (1, .int .i64 a1), (2, .int .i64 a2)] rfl (by rfl) fun a ha => ?_
  have hC : Chg [] w w := Chg.refl _ _
  refine wp_seq_k fun K2 hK2 => ?_
  refine wp_region_lit ?_
  refine seg ha 2 [(0, .slice ao1 a0.length cap1), (1, .int .i64 a1), (2, .int .i64 a2)] (by kernel_rfl) fun a ha => ?_
  refine hK2 _ _ ?_; clear hK2 K2
  refine wp_seq_k fun K3 hK3 => ?_
  refine wp_seq_k fun K4 hK4 => ?_
  refine wp_region_lit ?_
  refine seg ha 6 [(0, .slice ao1 a0.length cap1), (1, .int .i64 a1), (2, .int .i64 a2), (13, .bool (if (decide (a2 < (1 : Int))) = true then true else (decide (a2 > (4 : Int)))))] (by kernel_rfl) fun a ha => ?_
  refine hK4 _ _ ?_; clear hK4 K4
  refine cnd ha rfl (fun hc5 => ?_) (fun hc5 => ?_)
  · have H := ite_t hc5 H
    refine wp_seq_k fun K6 hK6 => ?_
    refine wp_region_lit ?_
    refine seg ha 2 [(6, .slice none 0 0), (7, .int .i64 (1 : Int))] (by kernel_rfl) fun a ha => ?_
    refine hK6 _ _ ?_; clear hK6 K6
    refine wp_ret ?_
    try simp only [Exit.then, Exit.inBlock]
    have o1 : Ok [] (M) w.heap.size := Ok.nil _ _
    have o2 : Ok (blkL none ++ (M)) (M) w.heap.size := (Ok.app (fun _ h => nomatch h) (fun _ h => .inl (h)))
    have nw : Ok (blkL none) (M) w.heap.size := (fun _ h => nomatch h)
    have p_z7_M : ∀ x ∈ blkL none, x ∉ M := fun x hx hy => absurd (hM x (hy)) (Nat.not_lt.2 ((fun _ h => nomatch h) x hx))
    have e_z7 : ∀ x ∈ blkL none, w.heap.size ≤ x := fun x hx => Nat.le_trans hC.size ((fun _ h => nomatch h) x hx)
    have hM : MS (blkL none ++ (M)) w := (MS.app (fun _ h => nomatch h) (fun x h => hM.chg (Chg.refl [] _) x (h)))
    have hC := hC.trans (Chg.refl [] _) (Ok.nil _ _)
    obtain rfl := Option.some.inj H
    refine rt2 ha rfl rfl rfl ?_
    exact ⟨none, 0, rfl, Own.nil, e_z7, hC, hM⟩
  · have H := ite_f hc5 H
    refine wp_skip ?_
    refine hK3 _ _ ?_; clear hK3 K3
    refine wp_seq_k fun K8 hK8 => ?_
    refine wp_seq_k fun K9 hK9 => ?_
    refine wp_region_lit ?_
    obtain ⟨s10, H10, H⟩ := bind_some H
    have J10 : ∀ (a : Act) (w10 : World), Has a Try.f16.ntmps [(0, .slice ao1 a0.length cap1), (1, .int .i64 a1), (2, .int .i64 a2), (22, .bool s10)] → (RSl (rInt .u8) 5 w10 (M) ao1 cap1 a0) → (Chg [] w w10) → (MS (M) w10) → K9 a w10 := by
      intro a w10 ha f1 hC hM
      refine hK9 _ _ ?_; clear hK9 K9
      refine cnd ha rfl (fun hc11 => ?_) (fun hc11 => ?_)
      · have H := ite_t hc11 H
        refine wp_seq_k fun K12 hK12 => ?_
        refine wp_region_lit ?_
        refine seg ha 2 [(6, .slice none 0 0), (7, .int .i64 (5 : Int))] (by kernel_rfl) fun a ha => ?_
        refine hK12 _ _ ?_; clear hK12 K12
        refine wp_ret ?_
        try simp only [Exit.then, Exit.inBlock]
        have o1 : Ok [] (M) w10.heap.size := Ok.nil _ _
        have o2 : Ok (blkL none ++ (M)) (M) w10.heap.size := (Ok.app (fun _ h => nomatch h) (fun _ h => .inl (h)))
        have nw : Ok (blkL none) (M) w10.heap.size := (fun _ h => nomatch h)
        have p_z13_M : ∀ x ∈ blkL none, x ∉ M := fun x hx hy => absurd (hM x (hy)) (Nat.not_lt.2 ((fun _ h => nomatch h) x hx))
        have e_z13 : ∀ x ∈ blkL none, w.heap.size ≤ x := fun x hx => Nat.le_trans hC.size ((fun _ h => nomatch h) x hx)
        have hM : MS (blkL none ++ (M)) w10 := (MS.app (fun _ h => nomatch h) (fun x h => hM.chg (Chg.refl [] _) x (h)))
        have hC := hC.trans (Chg.refl [] _) (Ok.nil _ _)
        obtain rfl := Option.some.inj H
        refine rt2 ha rfl rfl rfl ?_
        exact ⟨none, 0, rfl, Own.nil, e_z13, hC, hM⟩
      · have H := ite_f hc11 H
        refine wp_skip ?_
        refine hK8 _ _ ?_; clear hK8 K8
        refine wp_seq_k fun K14 hK14 => ?_
        refine wp_region_lit ?_
        refine bsl (vals := ([] : List Value)) (T := 5) ha rfl ([] : List Value) (fun w => by kernel_rfl) rfl rfl rfl fun a w15 g16 hN17 ha => ?_
        have o1 : Ok [] (M) w10.heap.size := Ok.nil _ _
        have o2 : Ok ([g16] ++ (M)) (M) w10.heap.size := (Ok.app (hN17.ok _) (fun _ h => .inl (h)))
        have f1 := f1.chg hN17.chg o1 o2
        have nw : Ok ([g16]) (M) w10.heap.size := (hN17.ok _)
        have p_i18_M : ∀ x ∈ [g16], x ∉ M := fun x hx hy => absurd (hM x (hy)) (Nat.not_lt.2 ((hN17.ge1) x hx))
        have e_i18 : ∀ x ∈ [g16], w.heap.size ≤ x := fun x hx => Nat.le_trans hC.size ((hN17.ge1) x hx)
        have hM : MS ([g16] ++ (M)) w15 := (MS.app hN17.ms (fun x h => hM.chg hN17.chg x (h)))
        have hC := hC.trans hN17.chg (Ok.nil _ _)
        have f19 : Own (rInt .u8) 5 w15 ([g16] ++ (M)) (some ⟨g16, 0, none⟩) 0 ([] : List Int) := hN17.own rfl (Nat.le_of_ble_eq_true rfl)
        refine seg ha 1 [(1, .int .i64 a1), (2, .int .i64 a2), (23, .slice (some ⟨g16, 0, none⟩) ([] : List Int).length 0), (24, .slice ao1 a0.length cap1)] (by kernel_rfl) fun a ha => ?_
        obtain ⟨hx20, H⟩ := ite_some H
        refine app (r := (rInt .u8)) (xs := ([] : List Int)) (ys := a0) ha (ElemT.mk' (bytes := 1) (by kernel_rfl)) rfl rfl rfl rfl rfl f19 f1.src hx20 (by decide) fun a w21 ao22 cap22 hO22 hc22 hk22 hl22 ha => ?_
        have o1 : Ok [g16] ([g16] ++ (M)) w15.heap.size := (fun _ h => .inl (ml h))
        have o2 : Ok (blkL ao22 ++ (M)) ([g16] ++ (M)) w15.heap.size := (Ok.app (Ok.to hk22 (fun _ h => ml h)) (fun _ h => .inl (mr (h))))
        have f1 := f1.chg hc22 o1 o2
        have nw : Ok (blkL ao22) ([g16] ++ (M)) w15.heap.size := (Ok.to hk22 (fun _ h => ml h))
        have p_i22_M : ∀ x ∈ blkL ao22, x ∉ M := fun x hx hy => (hk22 x hx).elim (fun h => p_i18_M x h hy) (fun h => absurd (hM x (mr (hy))) (Nat.not_lt.2 h))
        have e_i22 : ∀ x ∈ blkL ao22, w.heap.size ≤ x := fun x hx => (hk22 x hx).elim (e_i18 x) (Nat.le_trans hC.size)
        have hM : MS (blkL ao22 ++ (M)) w21 := (MS.app hl22 (fun x h => hM.chg hc22 x (mr (h))))
        have hC := hC.trans hc22 (fun x h => .inr (e_i18 x h))
        have f22 := hO22.chg (M' := blkL ao22 ++ (M)) (Chg.refl [] _) (Ok.nil _ _) (Ok.app (fun _ h => .inl (ml h)) (Ok.to (fun _ h => .inl (mr (h))) (fun _ h => mr h))) (fun _ _ h => nomatch h) (fun _ h => ml h)
        refine seg ha 2 [(25, .slice ao22 (([] : List Int) ++ a0).length cap22), (26, .int .i64 a1), (27, .int .i64 a2)] (by kernel_rfl) fun a ha => ?_
        obtain ⟨t23, H23, H⟩ := bind_some H
        refine cl ha (by rfl) (by kernel_rfl) (by rfl) (by rfl) (by rfl) (vineryref01_Bytes.walk w21 _ hM a1 a2 k _ H23) ?_
        rintro _ w23 ⟨ao24, cap24, rfl, f24, ne_i24, hc23, hMn⟩ a ha
        have o1 : Ok [] (blkL ao22 ++ (M)) w21.heap.size := Ok.nil _ _
        have o2 : Ok (blkL ao24 ++ (blkL ao22 ++ (M))) (blkL ao22 ++ (M)) w21.heap.size := (Ok.app (fun x h => .inr (ne_i24 x h)) (Ok.app (fun _ h => .inl (ml h)) (fun _ h => .inl (mr (h)))))
        have f22 := f22.chg hc23 o1 o2 (fun _ _ h => nomatch h) (fun _ h => mr (ml h))
        have nw : Ok (blkL ao24) (blkL ao22 ++ (M)) w21.heap.size := (fun x h => .inr (ne_i24 x h))
        have p_i24_i22 : ∀ x ∈ blkL ao24, x ∉ (blkL ao22) := fun x hx hy => absurd (hM x (ml hy)) (Nat.not_lt.2 (ne_i24 x hx))
        have p_i24_M : ∀ x ∈ blkL ao24, x ∉ M := fun x hx hy => absurd (hM x (mr (hy))) (Nat.not_lt.2 (ne_i24 x hx))
        have e_i24 : ∀ x ∈ blkL ao24, w.heap.size ≤ x := fun x hx => Nat.le_trans hC.size (ne_i24 x hx)
        have hM : MS (blkL ao24 ++ (blkL ao22 ++ (M))) w23 := (MS.app (fun x h => hMn x (ml h)) (MS.app (fun x h => hM.chg hc23 x (ml h)) (fun x h => hM.chg hc23 x (mr (h)))))
        have hC := hC.trans hc23 (Ok.nil _ _)
        obtain ⟨hx25, H⟩ := ite_some H
        refine app (r := (rInt .u8)) (xs := (([] : List Int) ++ a0)) (ys := t23) ha (ElemT.mk' (bytes := 1) (by kernel_rfl)) rfl rfl rfl rfl rfl f22 f24.src hx25 (by decide) fun a w26 ao27 cap27 hO27 hc27 hk27 hl27 ha => ?_
        have o1 : Ok (blkL ao22) (blkL ao24 ++ (blkL ao22 ++ (M))) w23.heap.size := (fun _ h => .inl (mr (ml h)))
        have o2 : Ok (blkL ao27 ++ (blkL ao24 ++ (M))) (blkL ao24 ++ (blkL ao22 ++ (M))) w23.heap.size := (Ok.app (Ok.to hk27 (fun _ h => mr (ml h))) (Ok.app (fun _ h => .inl (ml h)) (fun _ h => .inl (mr (mr (h))))))
        have f24 := f24.chg hc27 o1 o2 p_i24_i22 (fun _ h => mr (ml h))
        have nw : Ok (blkL ao27) (blkL ao24 ++ (blkL ao22 ++ (M))) w23.heap.size := (Ok.to hk27 (fun _ h => mr (ml h)))
        have p_i27_i24 : ∀ x ∈ blkL ao27, x ∉ (blkL ao24) := fun x hx hy => (hk27 x hx).elim (fun h => (fun x hx hy => p_i24_i22 x hy hx) x h hy) (fun h => absurd (hM x (ml hy)) (Nat.not_lt.2 h))
        have p_i27_M : ∀ x ∈ blkL ao27, x ∉ M := fun x hx hy => (hk27 x hx).elim (fun h => p_i22_M x h hy) (fun h => absurd (hM x (mr (mr (hy)))) (Nat.not_lt.2 h))
        have e_i27 : ∀ x ∈ blkL ao27, w.heap.size ≤ x := fun x hx => (hk27 x hx).elim (e_i22 x) (Nat.le_trans hC.size)
        have hM : MS (blkL ao27 ++ (blkL ao24 ++ (M))) w26 := (MS.app hl27 (MS.app (fun x h => hM.chg hc27 x (ml h)) (fun x h => hM.chg hc27 x (mr (mr (h))))))
        have hC := hC.trans hc27 (fun x h => .inr (e_i22 x h))
        have f27 := hO27.chg (M' := blkL ao27 ++ (blkL ao24 ++ (M))) (Chg.refl [] _) (Ok.nil _ _) (Ok.app (fun _ h => .inl (ml h)) (Ok.to (Ok.app (fun _ h => .inl (ml h)) (fun _ h => .inl (mr (mr (h))))) (fun _ h => mr h))) (fun _ _ h => nomatch h) (fun _ h => ml h)
        refine seg ha 2 [(6, .slice ao27 ((([] : List Int) ++ a0) ++ t23).length cap27), (7, .int .i64 (0 : Int))] (by kernel_rfl) fun a ha => ?_
        refine hK14 _ _ ?_; clear hK14 K14
        refine wp_ret ?_
        try simp only [Exit.then, Exit.inBlock]
        have o1 : Ok [] (blkL ao27 ++ (blkL ao24 ++ (M))) w26.heap.size := Ok.nil _ _
        have o2 : Ok (blkL ao27 ++ (M)) (blkL ao27 ++ (blkL ao24 ++ (M))) w26.heap.size := (Ok.app (fun _ h => .inl (ml h)) (fun _ h => .inl (mr (mr (h)))))
        have f27 := f27.chg (Chg.refl [] _) o1 o2 (fun _ _ h => nomatch h) (fun _ h => ml h)
        have hM : MS (blkL ao27 ++ (M)) w26 := (MS.app (fun x h => hM.chg (Chg.refl [] _) x (ml h)) (fun x h => hM.chg (Chg.refl [] _) x (mr (mr (h)))))
        have hC := hC.trans (Chg.refl [] _) (Ok.nil _ _)
        obtain rfl := Option.some.inj H
        refine rt2 ha rfl rfl rfl ?_
        exact ⟨ao27, cap27, rfl, f27, e_i27, hC, hM⟩
    have H := H10
    refine seg ha 3 [(16, .bool (decide (a1 < (0 : Int)))), (0, .slice ao1 a0.length cap1), (1, .int .i64 a1), (2, .int .i64 a2)] (by kernel_rfl) fun a ha => ?_
    rcases Bool.eq_false_or_eq_true (decide (a1 < (0 : Int))) with hb28 | hb28
    · have ha := ha.lit hb28
      have H := ite_t hb28 H
      refine sgh ha 6 [1, 1, 1, 1, 1, 3] [(0, .slice ao1 a0.length cap1), (1, .int .i64 a1), (2, .int .i64 a2), (22, .bool true)] (by kernel_rfl) fun a ha => ?_
      obtain rfl := Option.some.inj H
      exact J10 _ _ (ha.sel (by kernel_rfl)) f1 hC hM
    · have ha := ha.lit hb28
      have H := ite_f hb28 H
      refine sgh ha 3 [2, 2, 2] [(0, .slice ao1 a0.length cap1), (1, .int .i64 a1), (2, .int .i64 a2), (16, .bool false), (17, .int .i64 a1), (19, .int .i64 (IntKind.i64.wrap ((8 : Int) * a2)))] (by kernel_rfl) fun a ha => ?_
      obtain ⟨hx29, H⟩ := ite_some H
      refine shl ha rfl rfl rfl rfl rfl hx29 fun a ha => ?_
      refine sgh ha 2 [2, 4] [(0, .slice ao1 a0.length cap1), (1, .int .i64 a1), (2, .int .i64 a2), (22, .bool (decide (a1 ≥ (IntKind.i64.wrap ((1 : Int) * 2 ^ (min (Int.toNat (IntKind.i64.wrap ((8 : Int) * a2))) IntKind.i64.bits))))))] (by kernel_rfl) fun a ha => ?_
      obtain rfl := Option.some.inj H
      exact J10 _ _ (ha.sel (by kernel_rfl)) f1 hC hM

theorem Kept.go (w : World) (M : List Nat) (hM : MS M w) (a0 : List Int) (g : Nat) (hB : Box w g (a0.map (.int .u8) ++ [.int .u8 77])) (hl : a0.length ≤ 281474976710655) (a1 : List Int) (ao1 : Option Addr) (cap1 : Nat) (f1 : RSl (rInt .u8) 5 w M ao1 cap1 a1) :
    To Try.prog 17 [.slice (some ⟨g, 0, none⟩) a0.length (a0.length + 1), .slice ao1 a1.length cap1] w fun v w' => v = .bool ((bstr (b2s a0)).toList == (bstr (b2s a1)).toList) ∧ Chg [] w w' ∧ MS M w' := by
  have hmax : maxLen = 9223372036854775807 := rfl
  have f0 : RSl (rInt .u8) 5 w [] (some ⟨g, 0, none⟩) (a0.length + 1) a0 := Box.bytes hB (by simp) (by omega) (by omega)
  refine ent Try.func17 rfl [(0, .slice (some ⟨g, 0, none⟩) a0.length (a0.length + 1)), (1, .slice ao1 a1.length cap1)] rfl rfl fun a ha => ?_
  refine wp_seq_k fun K hK => ?_
  refine wp_region_lit ?_
  refine seg ha 1 [(0, .slice (some ⟨g, 0, none⟩) a0.length (a0.length + 1)), (1, .slice ao1 a1.length cap1)] (by kernel_rfl) fun a ha => ?_
  refine hK _ _ ?_; clear hK K
  refine wp_seq_k fun K hK => ?_
  refine wp_region_lit ?_
  refine seg ha 1 [(0, .slice (some ⟨g, 0, none⟩) a0.length (a0.length + 1)), (1, .slice ao1 a1.length cap1), (5, .slice (some ⟨g, 0, none⟩) a0.length (a0.length + 1))] (by kernel_rfl) fun a ha => ?_
  refine cvs ha rfl (by kernel_rfl) (by kernel_rfl) (by kernel_rfl) rfl rfl rfl f0 fun a ha => ?_
  refine seg ha 1 [(0, .slice (some ⟨g, 0, none⟩) a0.length (a0.length + 1)), (1, .slice ao1 a1.length cap1), (6, .string (bstr (b2s a0))), (7, .slice ao1 a1.length cap1)] (by kernel_rfl) fun a ha => ?_
  refine cvs ha rfl (by kernel_rfl) (by kernel_rfl) (by kernel_rfl) rfl rfl rfl f1 fun a ha => ?_
  refine seg ha 2 [(10, .bool ((bstr (b2s a0)).toList == (bstr (b2s a1)).toList)), (0, .slice (some ⟨g, 0, none⟩) a0.length (a0.length + 1)), (1, .slice ao1 a1.length cap1)] (by kernel_rfl) fun a ha => ?_
  rcases Bool.eq_false_or_eq_true ((bstr (b2s a0)).toList == (bstr (b2s a1)).toList) with hb | hb
  · have ha := ha.lit hb
    have hlen : a0.length = a1.length := by
      have h1 := eq_of_beq hb
      rw [ByteArray.toList_eq, ByteArray.toList_eq] at h1
      have := congrArg List.length h1
      simpa [bstr, b2s] using this
    have e8 : IntKind.i64.wrap ((a1.length : Int) + 1) = ((a1.length + 1 : Nat) : Int) := by rw [IntKind.wrap_i64]; omega
    refine sgh ha 4 [2, 2, 2, 2] [(10, .bool true), (1, .slice ao1 a1.length cap1), (11, .slice (some ⟨g, 0, none⟩) a0.length (a0.length + 1)), (14, .int .i64 (IntKind.i64.wrap ((a1.length : Int) + 1)))] (by kernel_rfl) fun a ha => ?_
    rw [e8] at ha
    refine slx (T := 5) (s := 1) ha (by kernel_rfl) (by kernel_rfl) rfl rfl (by omega) rfl rfl rfl fun a ha => ?_
    refine sgh ha 2 [2, 2] [(10, .bool true), (15, .slice (some ⟨g, 0, none⟩) (a1.length + 1) (a0.length + 1)), (17, .int .i64 a1.length)] (by kernel_rfl) fun a ha => ?_
    have hl2 : (List.replicate (a1.length + 1) (0 : Int)).length = a1.length + 1 := by simp
    refine hop (v := .pointer (some ⟨g, 0 + Int.toNat (a1.length : Int) * (rInt .u8).sz, none⟩)) (w' := w) ha rfl rfl rfl (ix_run (r := rInt .u8) (T := 5) (xs := List.replicate (a1.length + 1) (0 : Int)) (k := .i64) (i := (a1.length : Int)) ha (by kernel_rfl) (by kernel_rfl) (by rw [hl2]; rfl) rfl rfl (by omega) (by rw [hl2]; omega)) fun a ha => ?_
    refine ld (v := .int .u8 77) ha rfl (by kernel_rfl) rfl rfl rfl (hB.cell' (o := a0.length) (by simp [rInt, hlen]) (by rw [List.getElem?_append_right (by simp)]; simp)) fun a ha => ?_
    refine sgh ha 3 [2, 3, 0] [(4, .bool ((77 : Int) == 77))] (by kernel_rfl) fun a ha => ?_
    refine hK _ _ ?_; clear hK K
    refine wp_ret ?_
    refine rt1 ha rfl rfl ⟨?_, Chg.refl _ _, hM⟩
    rw [hb]; rfl
  · have ha := ha.lit hb
    refine sgh ha 12 [1, 1, 1, 1, 1, 1, 1, 1, 1, 1, 4, 0] [(4, .bool false)] (by kernel_rfl) fun a ha => ?_
    refine hK _ _ ?_; clear hK K
    refine wp_ret ?_
    refine rt1 ha rfl rfl ⟨?_, Chg.refl _ _, hM⟩
    rw [hb]
def Kept.f (a0 a1 : List Int) : Option Bool := some ((bstr (b2s a0)).toList == (bstr (b2s a1)).toList)
theorem Kept.walk (w : World) (M : List Nat) (hM : MS M w) (a0 : List Int) (ao0 : Option Addr) (cap0 : Nat) {M1 : List Nat} (f0 : Len w M1 ao0 cap0 a0) (a1 : List Int) (ao1 : Option Addr) (cap1 : Nat) (f1 : RSl (rInt .u8) 5 w M ao1 cap1 a1) (r : Bool) (H : Kept.f a0 a1 = some r) :
    To Try.prog 17 [.slice ao0 a0.length cap0, .slice ao1 a1.length cap1] w fun v w' => v = .bool r ∧ Chg [] w w' ∧ MS M w' := by
  obtain ⟨g, rfl, _, rfl, hl, hB⟩ := f0
  obtain rfl := Option.some.inj H
  exact Kept.go w M hM a0 g hB hl a1 ao1 cap1 f1


theorem Owned.go (w : World) (M : List Nat) (hM : MS M w) (gr : Nat) (rows : List Row) (hR : Rows w gr rows) (hl : rows.length ≤ 1000) (h0 : Cells w rows fun _ _ => True) :
    To Try.prog 18 [.slice (some ⟨gr, 0, none⟩) rows.length rows.length] w fun v w' => v = .bool true ∧ Chg (gsOf rows) w w' ∧ MS M w' ∧ Cells w' rows (fun i cur => ∃ c, cur = List.replicate c (.int .u8 (IntKind.u8.wrap ((i : Int) + 1)))) := by
  refine ent Try.func18 rfl [(0, .slice (some ⟨gr, 0, none⟩) rows.length rows.length)] rfl rfl fun a ha => ?_
  refine wp_seq_k fun K hK => ?_
  refine wp_region_lit ?_
  refine seg ha 1 [(0, .slice (some ⟨gr, 0, none⟩) rows.length rows.length)] (by kernel_rfl) fun a ha => ?_
  refine hK _ _ ?_; clear hK K
  refine wp_seq_k fun KA hKA => ?_
  refine wp_seq_k fun K hK => ?_
  refine wp_region_lit ?_
  refine seg ha 1 [(0, .slice (some ⟨gr, 0, none⟩) rows.length rows.length), (3, .int .i64 0)] (by kernel_rfl) fun a ha => ?_
  refine hK _ _ ?_; clear hK K
  have J1 : ∀ (a : Act) (w1 : World), Has a Try.f18.ntmps [(0, .slice (some ⟨gr, 0, none⟩) rows.length rows.length)] → Chg (gsOf rows) w w1 → Cells w1 rows (fun i cur => cur = List.replicate cur.length (.int .u8 (IntKind.u8.wrap ((i : Int) + 1)))) → KA a w1 := by
    intro a w1 ha hC hS
    refine hKA _ _ ?_
    have ewb : ∀ (j : Nat), j < rows.length → IntKind.u8.wrap (IntKind.i64.wrap ((j : Int) + 1)) = IntKind.u8.wrap ((j : Int) + 1) := fun j hj => by
      have : IntKind.i64.wrap ((j : Int) + 1) = (j : Int) + 1 := by rw [IntKind.wrap_i64]; omega
      rw [this]
    have hm : maxLen = 9223372036854775807 := rfl
    refine wp_seq_k fun KB hKB => ?_
    refine wp_seq_k fun K hK => ?_
    refine wp_region_lit ?_
    refine seg ha 1 [(0, .slice (some ⟨gr, 0, none⟩) rows.length rows.length), (6, .int .i64 0)] (by kernel_rfl) fun a ha => ?_
    refine hK _ _ ?_; clear hK K
    refine wp_block ?_
    refine wp_loop_ghost (fun kk a w1 => ∃ (i : Nat), kk + i = rows.length + 1 ∧ i ≤ rows.length ∧ Has a Try.f18.ntmps [(0, .slice (some ⟨gr, 0, none⟩) rows.length rows.length), (6, .int .i64 (i : Int))] ∧ Chg (gsOf rows) w w1 ∧ Cells w1 rows (fun j cur => cur = List.replicate cur.length (.int .u8 (IntKind.u8.wrap ((j : Int) + 1))))) (rows.length + 1) ?_ ?_
    · exact ⟨0, by omega, by omega, ha, hC, hS⟩
    · rintro kk a w1 ⟨i, hk, hi, ha, hC, hS⟩
      have hR1 := hR.keep hC
      refine wp_seq_k fun K1 hK1 => ?_
      refine wp_seq_k fun K2 hK2 => ?_
      refine wp_region_lit ?_
      refine seg ha 4 [(0, .slice (some ⟨gr, 0, none⟩) rows.length rows.length), (6, .int .i64 (i : Int)), (40, .bool (decide ((i : Int) < (rows.length : Int))))] (by kernel_rfl) fun a ha => ?_
      refine hK2 _ _ ?_; clear hK2 K2
      refine cnd ha rfl (fun hc => ?_) (fun hc => ?_)
      · refine wp_skip ?_
        refine hK1 _ _ ?_; clear hK1 K1
        have hlt : i < rows.length := by simpa using hc
        obtain ⟨r, hr⟩ : ∃ r, rows[i]? = some r := ⟨rows[i], by simp [hlt]⟩
        obtain ⟨hr1, hr2, hr3⟩ := hR.cap r (List.mem_of_getElem? hr)
        refine wp_seq_k fun K3 hK3 => ?_
        refine wp_block ?_
        refine wp_seq_k fun K4 hK4 => ?_
        refine drq0 (fun w' => Chg [] w1 w') (by kernel_rfl) (by kernel_rfl) (fun _ h => h) ?_
        have hrow : (rows.map Row.v)[i]? = some r.v := by simp [hr]
        refine qp 0 (.slice (some ⟨gr, 0, none⟩) rows.length rows.length) ha rfl rfl rfl (by kernel_rfl) fun a ha => ?_
        refine qp 0 (.int .i64 (i : Int)) ha rfl rfl rfl (by kernel_rfl) fun a ha => ?_
        refine qv ha rfl rfl rfl (fun w' _ => ixa (T := 22) ha (by kernel_rfl) (by kernel_rfl) rfl rfl (by omega) (by omega) w') fun a ha => ?_
        refine qv (v := r.v) ha rfl rfl rfl (fun w' hs => ld_run ha rfl (by kernel_rfl) ((Box.chg hR1.row hs (fun h => nomatch h)).cell' (o := i) (by simp) hrow)) fun a ha => ?_
        refine qp 0 (.slice (some ⟨gr, 0, none⟩) rows.length rows.length) ha rfl rfl rfl (by kernel_rfl) fun a ha => ?_
        refine qp 0 (.int .i64 (i : Int)) ha rfl rfl rfl (by kernel_rfl) fun a ha => ?_
        refine qv ha rfl rfl rfl (fun w' _ => ixa (T := 22) ha (by kernel_rfl) (by kernel_rfl) rfl rfl (by omega) (by omega) w') fun a ha => ?_
        refine qv (v := r.v) ha rfl rfl rfl (fun w' hs => ld_run ha rfl (by kernel_rfl) ((Box.chg hR1.row hs (fun h => nomatch h)).cell' (o := i) (by simp) hrow)) fun a ha => ?_
        refine qp 0 (.int .i64 (r.cap : Int)) ha rfl rfl rfl (by kernel_rfl) fun a ha => ?_
        refine qv (v := .slice r.ao r.cap r.cap) ha rfl rfl rfl (fun w' _ => slx_run (T := 5) (s := 1) ha (by kernel_rfl) (by kernel_rfl) rfl rfl w') fun a ha => ?_
        refine qp 0 (.slice r.ao r.cap r.cap) ha rfl rfl rfl (by kernel_rfl) fun a ha => ?_
        refine wpQuiet_nil ?_
        intro w2 hc2
        refine wpl_end ?_
        have ha := ha.sel (env' := [(0, .slice (some ⟨gr, 0, none⟩) rows.length rows.length), (6, .int .i64 (i : Int)), (7, .slice r.ao r.cap r.cap)]) (by kernel_rfl)
        refine hK4 _ _ ?_; clear hK4 K4
        have hC2 := hC.trans hc2 (Ok.nil _ _)
        have hS2 : Cells w2 rows (fun j cur => cur = List.replicate cur.length (.int .u8 (IntKind.u8.wrap ((j : Int) + 1)))) := fun j q g h1 h2 => by
          obtain ⟨cur, c1, c2, c3⟩ := hS j q g h1 h2
          exact ⟨cur, c1.chg hc2 (by simp), c2, c3⟩
        refine wp_seq_k fun K4 hK4 => ?_
        refine wp_region_lit ?_
        refine seg ha 1 [(0, .slice (some ⟨gr, 0, none⟩) rows.length rows.length), (6, .int .i64 (i : Int)), (7, .slice r.ao r.cap r.cap), (8, .int .i64 0)] (by kernel_rfl) fun a ha => ?_
        refine hK4 _ _ ?_; clear hK4 K4
        refine wp_block ?_
        refine wp_loop_ghost (fun kk a w3 => ∃ (k : Nat), kk + k = r.cap + 1 ∧ k ≤ r.cap ∧ w3 = w2 ∧ Has a Try.f18.ntmps [(0, .slice (some ⟨gr, 0, none⟩) rows.length rows.length), (6, .int .i64 (i : Int)), (7, .slice r.ao r.cap r.cap), (8, .int .i64 (k : Int))]) (r.cap + 1) ?_ ?_
        · exact ⟨0, by omega, by omega, rfl, ha⟩
        · rintro kk2 a w3 ⟨k, hkk, hkc, rfl, ha⟩
          refine wp_seq_k fun K5 hK5 => ?_
          refine wp_seq_k fun K6 hK6 => ?_
          refine wp_region_lit ?_
          refine seg ha 4 [(0, .slice (some ⟨gr, 0, none⟩) rows.length rows.length), (6, .int .i64 (i : Int)), (7, .slice r.ao r.cap r.cap), (8, .int .i64 (k : Int)), (56, .bool (decide ((k : Int) < (r.cap : Int))))] (by kernel_rfl) fun a ha => ?_
          refine hK6 _ _ ?_; clear hK6 K6
          refine cnd ha rfl (fun hc => ?_) (fun hc => ?_)
          · refine wp_skip ?_
            refine hK5 _ _ ?_; clear hK5 K5
            have hkl : k < r.cap := by simpa using hc
            obtain ⟨g, hg⟩ : ∃ g, r.g = some g := by
              cases hgg : r.g with
              | none => have := hr3 hgg; omega
              | some g => exact ⟨g, rfl⟩
            have hao : r.ao = some ⟨g, 0, none⟩ := by simp [Row.ao, hg]
            rw [hao] at ha
            obtain ⟨cur, c1, c2, c3⟩ := hS2 i r g hr hg
            refine wp_seq_k fun K6 hK6 => ?_
            refine wp_block ?_
            refine wp_seq_k fun K7 hK7 => ?_
            refine wp_region_lit ?_
            refine seg ha 2 [(0, .slice (some ⟨gr, 0, none⟩) rows.length rows.length), (6, .int .i64 (i : Int)), (7, .slice (some ⟨g, 0, none⟩) r.cap r.cap), (8, .int .i64 (k : Int)), (59, .slice (some ⟨g, 0, none⟩) r.cap r.cap), (60, .int .i64 (k : Int))] (by kernel_rfl) fun a ha => ?_
            refine hop ha rfl rfl rfl (ixa (T := 5) ha (by kernel_rfl) (by kernel_rfl) rfl rfl (by omega) (by omega) _) fun a ha => ?_
            refine ld (v := .int .u8 (IntKind.u8.wrap ((i : Int) + 1))) ha rfl (by kernel_rfl) rfl rfl rfl (c1.cell' (o := k) (by rw [Nat.zero_add, Int.toNat_natCast]) (by rw [c3, List.getElem?_replicate, if_pos (by omega)])) fun a ha => ?_
            refine seg ha 4 [(0, .slice (some ⟨gr, 0, none⟩) rows.length rows.length), (6, .int .i64 (i : Int)), (7, .slice (some ⟨g, 0, none⟩) r.cap r.cap), (8, .int .i64 (k : Int)), (66, .bool (IntKind.u8.wrap ((i : Int) + 1) != IntKind.u8.wrap (IntKind.i64.wrap ((i : Int) + 1))))] (by kernel_rfl) fun a ha => ?_
            refine hK7 _ _ ?_; clear hK7 K7
            refine cnd ha rfl (fun hx => ?_) (fun hx => ?_)
            · rw [ewb i hlt] at hx
              simp at hx
            · refine wp_skip ?_
              refine hK6 _ _ ?_; clear hK6 K6
              refine wp_region_lit ?_
              have e5 : IntKind.i64.wrap ((k : Int) + 1) = ((k + 1 : Nat) : Int) := by rw [IntKind.wrap_i64]; omega
              refine seg ha 3 [(0, .slice (some ⟨gr, 0, none⟩) rows.length rows.length), (6, .int .i64 (i : Int)), (7, .slice (some ⟨g, 0, none⟩) r.cap r.cap), (8, .int .i64 (IntKind.i64.wrap ((k : Int) + 1)))] (by kernel_rfl) fun a ha => ?_
              rw [e5, ← hao] at ha
              exact ⟨kk2 - 1, by omega, k + 1, by omega, by omega, rfl, ha⟩
          · refine wp_exit ?_
            simp only [Exit.then, Exit.inBlock, ↓reduceIte, Nat.reduceEqDiff]
            refine hK3 _ _ ?_
            refine wp_region_lit ?_
            have e3 : IntKind.i64.wrap ((i : Int) + 1) = ((i + 1 : Nat) : Int) := by rw [IntKind.wrap_i64]; omega
            refine seg ha 3 [(0, .slice (some ⟨gr, 0, none⟩) rows.length rows.length), (6, .int .i64 (IntKind.i64.wrap ((i : Int) + 1)))] (by kernel_rfl) fun a ha => ?_
            rw [e3] at ha
            exact ⟨kk - 1, by omega, i + 1, by omega, by omega, ha, hC2, hS2⟩
      · refine wp_exit ?_
        simp only [Exit.then, Exit.inBlock, ↓reduceIte, Nat.reduceEqDiff]
        refine hKB _ _ ?_
        refine wp_seq_k fun K hK => ?_
        refine wp_region_lit ?_
        refine seg ha 1 [(2, .bool true)] (by kernel_rfl) fun a ha => ?_
        refine hK _ _ ?_; clear hK K
        refine wp_ret ?_
        refine rt1 ha rfl rfl ⟨rfl, hC, hM.chg hC, fun j q g h1 h2 => ?_⟩
        obtain ⟨cur, c1, c2, c3⟩ := hS j q g h1 h2
        exact ⟨cur, c1, c2, _, c3⟩
  refine wp_block ?_
  refine wp_loop_ghost (fun kk a w1 => ∃ (i : Nat), kk + i = rows.length + 1 ∧ i ≤ rows.length ∧ Has a Try.f18.ntmps [(0, .slice (some ⟨gr, 0, none⟩) rows.length rows.length), (3, .int .i64 (i : Int))] ∧ Chg (gsOf rows) w w1 ∧ Cells w1 rows (fun j cur => j < i → cur = List.replicate cur.length (.int .u8 (IntKind.u8.wrap ((j : Int) + 1))))) (rows.length + 1) ?_ ?_
  · exact ⟨0, by omega, by omega, ha, Chg.refl _ _, fun i r g h1 h2 => by
      obtain ⟨cur, c1, c2, _⟩ := h0 i r g h1 h2
      exact ⟨cur, c1, c2, fun h => absurd h (Nat.not_lt_zero _)⟩⟩
  · rintro kk a w1 ⟨i, hk, hi, ha, hC, hS⟩
    have hR1 := hR.keep hC
    refine wp_seq_k fun K1 hK1 => ?_
    refine wp_seq_k fun K2 hK2 => ?_
    refine wp_region_lit ?_
    refine seg ha 4 [(0, .slice (some ⟨gr, 0, none⟩) rows.length rows.length), (3, .int .i64 (i : Int)), (12, .bool (decide ((i : Int) < (rows.length : Int))))] (by kernel_rfl) fun a ha => ?_
    refine hK2 _ _ ?_; clear hK2 K2
    refine cnd ha rfl (fun hc => ?_) (fun hc => ?_)
    · refine wp_skip ?_
      refine hK1 _ _ ?_; clear hK1 K1
      have hlt : i < rows.length := by simpa using hc
      obtain ⟨r, hr⟩ : ∃ r, rows[i]? = some r := ⟨rows[i], by simp [hlt]⟩
      obtain ⟨hr1, hr2, hr3⟩ := hR.cap r (List.mem_of_getElem? hr)
      refine wp_seq_k fun K3 hK3 => ?_
      refine wp_block ?_
      refine wp_seq_k fun K4 hK4 => ?_
      refine drq0 (fun w' => Chg [] w1 w') (by kernel_rfl) (by kernel_rfl) (fun _ h => h) ?_
      have hrow : (rows.map Row.v)[i]? = some r.v := by simp [hr]
      refine qp 0 (.slice (some ⟨gr, 0, none⟩) rows.length rows.length) ha rfl rfl rfl (by kernel_rfl) fun a ha => ?_
      refine qp 0 (.int .i64 (i : Int)) ha rfl rfl rfl (by kernel_rfl) fun a ha => ?_
      refine qv ha rfl rfl rfl (fun w' _ => ixa (T := 22) ha (by kernel_rfl) (by kernel_rfl) rfl rfl (by omega) (by omega) w') fun a ha => ?_
      refine qv (v := r.v) ha rfl rfl rfl (fun w' hs => ld_run ha rfl (by kernel_rfl) ((Box.chg hR1.row hs (fun h => nomatch h)).cell' (o := i) (by simp) hrow)) fun a ha => ?_
      refine qp 0 (.slice (some ⟨gr, 0, none⟩) rows.length rows.length) ha rfl rfl rfl (by kernel_rfl) fun a ha => ?_
      refine qp 0 (.int .i64 (i : Int)) ha rfl rfl rfl (by kernel_rfl) fun a ha => ?_
      refine qv ha rfl rfl rfl (fun w' _ => ixa (T := 22) ha (by kernel_rfl) (by kernel_rfl) rfl rfl (by omega) (by omega) w') fun a ha => ?_
      refine qv (v := r.v) ha rfl rfl rfl (fun w' hs => ld_run ha rfl (by kernel_rfl) ((Box.chg hR1.row hs (fun h => nomatch h)).cell' (o := i) (by simp) hrow)) fun a ha => ?_
      refine qp 0 (.int .i64 (r.cap : Int)) ha rfl rfl rfl (by kernel_rfl) fun a ha => ?_
      refine qv (v := .slice r.ao r.cap r.cap) ha rfl rfl rfl (fun w' _ => slx_run (T := 5) (s := 1) ha (by kernel_rfl) (by kernel_rfl) rfl rfl w') fun a ha => ?_
      refine qp 0 (.slice r.ao r.cap r.cap) ha rfl rfl rfl (by kernel_rfl) fun a ha => ?_
      refine wpQuiet_nil ?_
      intro w2 hc2
      refine wpl_end ?_
      have ha := ha.sel (env' := [(0, .slice (some ⟨gr, 0, none⟩) rows.length rows.length), (3, .int .i64 (i : Int)), (4, .slice r.ao r.cap r.cap)]) (by kernel_rfl)
      refine hK4 _ _ ?_; clear hK4 K4
      have hC2 := hC.trans hc2 (Ok.nil _ _)
      have hS2 : Cells w2 rows (fun j cur => j < i → cur = List.replicate cur.length (.int .u8 (IntKind.u8.wrap ((j : Int) + 1)))) := fun j q g h1 h2 => by
        obtain ⟨cur, c1, c2, c3⟩ := hS j q g h1 h2
        exact ⟨cur, c1.chg hc2 (by simp), c2, c3⟩
      refine wp_seq_k fun K4 hK4 => ?_
      refine wp_region_lit ?_
      refine seg ha 1 [(0, .slice (some ⟨gr, 0, none⟩) rows.length rows.length), (3, .int .i64 (i : Int)), (4, .slice r.ao r.cap r.cap), (5, .int .i64 0)] (by kernel_rfl) fun a ha => ?_
      refine hK4 _ _ ?_; clear hK4 K4
      have ewb : ∀ (j : Nat), j < rows.length → IntKind.u8.wrap (IntKind.i64.wrap ((j : Int) + 1)) = IntKind.u8.wrap ((j : Int) + 1) := fun j hj => by
        have : IntKind.i64.wrap ((j : Int) + 1) = (j : Int) + 1 := by rw [IntKind.wrap_i64]; omega
        rw [this]
      have hm : maxLen = 9223372036854775807 := rfl
      refine wp_block ?_
      refine wp_loop_ghost (fun kk a w3 => ∃ (k : Nat), kk + k = r.cap + 1 ∧ k ≤ r.cap ∧ Has a Try.f18.ntmps [(0, .slice (some ⟨gr, 0, none⟩) rows.length rows.length), (3, .int .i64 (i : Int)), (4, .slice r.ao r.cap r.cap), (5, .int .i64 (k : Int))] ∧ Chg (gsOf rows) w w3 ∧
        Cells w3 rows (fun j cur => (j < i → cur = List.replicate cur.length (.int .u8 (IntKind.u8.wrap ((j : Int) + 1)))) ∧ (j = i → cur.take k = List.replicate k (.int .u8 (IntKind.u8.wrap ((j : Int) + 1)))))) (r.cap + 1) ?_ ?_
      · exact ⟨0, by omega, by omega, ha, hC2, fun j q g h1 h2 => by
          obtain ⟨cur, c1, c2, c3⟩ := hS2 j q g h1 h2
          exact ⟨cur, c1, c2, c3, fun _ => by simp⟩⟩
      · rintro kk2 a w3 ⟨k, hkk, hkc, ha, hC3, hS3⟩
        refine wp_seq_k fun K5 hK5 => ?_
        refine wp_seq_k fun K6 hK6 => ?_
        refine wp_region_lit ?_
        refine seg ha 4 [(0, .slice (some ⟨gr, 0, none⟩) rows.length rows.length), (3, .int .i64 (i : Int)), (4, .slice r.ao r.cap r.cap), (5, .int .i64 (k : Int)), (28, .bool (decide ((k : Int) < (r.cap : Int))))] (by kernel_rfl) fun a ha => ?_
        refine hK6 _ _ ?_; clear hK6 K6
        refine cnd ha rfl (fun hc => ?_) (fun hc => ?_)
        · refine wp_skip ?_
          refine hK5 _ _ ?_; clear hK5 K5
          have hkl : k < r.cap := by simpa using hc
          obtain ⟨g, hg⟩ : ∃ g, r.g = some g := by
            cases hgg : r.g with
            | none => have := hr3 hgg; omega
            | some g => exact ⟨g, rfl⟩
          have hao : r.ao = some ⟨g, 0, none⟩ := by simp [Row.ao, hg]
          rw [hao] at ha
          obtain ⟨cur, c1, c2, c3, c4⟩ := hS3 i r g hr hg
          refine wp_seq_k fun K6 hK6 => ?_
          refine wp_block ?_
          refine wp_region_lit ?_
          refine seg ha 5 [(0, .slice (some ⟨gr, 0, none⟩) rows.length rows.length), (3, .int .i64 (i : Int)), (4, .slice (some ⟨g, 0, none⟩) r.cap r.cap), (5, .int .i64 (k : Int)), (31, .slice (some ⟨g, 0, none⟩) r.cap r.cap), (32, .int .i64 (k : Int)), (35, .int .u8 (IntKind.u8.wrap (IntKind.i64.wrap ((i : Int) + 1))))] (by kernel_rfl) fun a ha => ?_
          refine hop ha rfl rfl rfl (ixa (T := 5) ha (by kernel_rfl) (by kernel_rfl) rfl rfl (by omega) (by omega) _) fun a ha => ?_
          refine st (cs := cur) (g := g) (o' := k) ha rfl rfl (by simp) (by kernel_rfl) rfl rfl c1 (by omega) fun a w4 ha hB4 hc4 _ => ?_
          refine wpl_end ?_
          have ha := ha.sel (env' := [(0, .slice (some ⟨gr, 0, none⟩) rows.length rows.length), (3, .int .i64 (i : Int)), (4, .slice (some ⟨g, 0, none⟩) r.cap r.cap), (5, .int .i64 (k : Int))]) (by kernel_rfl)
          refine hK6 _ _ ?_; clear hK6 K6
          refine wp_region_lit ?_
          have e5 : IntKind.i64.wrap ((k : Int) + 1) = ((k + 1 : Nat) : Int) := by rw [IntKind.wrap_i64]; omega
          refine seg ha 3 [(0, .slice (some ⟨gr, 0, none⟩) rows.length rows.length), (3, .int .i64 (i : Int)), (4, .slice (some ⟨g, 0, none⟩) r.cap r.cap), (5, .int .i64 (IntKind.i64.wrap ((k : Int) + 1)))] (by kernel_rfl) fun a ha => ?_
          rw [e5, ← hao] at ha
          refine ⟨kk2 - 1, by omega, k + 1, by omega, by omega, ha, hC3.trans hc4 (Ok.one (.inl (gs_mem hr hg))), fun j q g2 h1 h2 => ?_⟩
          by_cases hji : j = i
          · subst hji
            have hq : q = r := Option.some.inj (h1.symm.trans hr)
            subst hq
            have hgg : g2 = g := Option.some.inj (h2.symm.trans hg)
            subst hgg
            refine ⟨_, hB4, by simp [c2], fun h => absurd h (Nat.lt_irrefl _), fun _ => ?_⟩
            rw [ewb j hlt, List.replicate_succ', ← c4 rfl]
            rw [List.take_add_one]
            have hklen : k < cur.length := by omega
            rw [List.take_set_of_le (Nat.le_refl _)]
            simp [hklen]
          · have hne : g2 ≠ g := fun e => hji (hR.one j i q r g h1 hr (e ▸ h2) hg)
            obtain ⟨cu, b1, b2, b3, b4⟩ := hS3 j q g2 h1 h2
            exact ⟨cu, b1.chg hc4 (by simpa using hne), b2, b3, fun e => absurd e hji⟩
        · refine wp_exit ?_
          simp only [Exit.then, Exit.inBlock, ↓reduceIte, Nat.reduceEqDiff]
          have hkc' : k = r.cap := by
            have : ¬ k < r.cap := by simpa using hc
            omega
          subst hkc'
          refine hK3 _ _ ?_
          refine wp_region_lit ?_
          have e3 : IntKind.i64.wrap ((i : Int) + 1) = ((i + 1 : Nat) : Int) := by rw [IntKind.wrap_i64]; omega
          refine seg ha 3 [(0, .slice (some ⟨gr, 0, none⟩) rows.length rows.length), (3, .int .i64 (IntKind.i64.wrap ((i : Int) + 1)))] (by kernel_rfl) fun a ha => ?_
          rw [e3] at ha
          refine ⟨kk - 1, by omega, i + 1, by omega, by omega, ha, hC3, fun j q g2 h1 h2 => ?_⟩
          obtain ⟨cu, b1, b2, b3, b4⟩ := hS3 j q g2 h1 h2
          refine ⟨cu, b1, b2, fun hj => ?_⟩
          by_cases hji : j = i
          · have hq : q = r := by subst hji; exact Option.some.inj (h1.symm.trans hr)
            subst hq
            have := b4 hji
            rw [← b2, List.take_length] at this
            exact this
          · exact b3 (by omega)
    · refine wp_exit ?_
      simp only [Exit.then, Exit.inBlock, ↓reduceIte, Nat.reduceEqDiff]
      have hge : i = rows.length := by
        have : ¬ i < rows.length := by simpa using hc
        omega
      subst hge
      exact J1 _ _ (ha.sel (by kernel_rfl)) hC (fun j q g h1 h2 => by
        obtain ⟨cur, c1, c2, c3⟩ := hS j q g h1 h2
        exact ⟨cur, c1, c2, c3 (List.getElem?_eq_some_iff.1 h1).1⟩)
theorem Owned.call (w : World) (M : List Nat) (hM : MS M w) (gr : Nat) (l : List (Option Addr × Nat × Nat)) (gs : List Nat) (h : ∀ q ∈ l, RowOk w q) (hp : l.Pairwise (fun p q => ∀ x ∈ blkL p.1, x ∉ blkL q.1)) (ho : ∀ q ∈ l, gr ∉ blkL q.1) (hB : Box w gr (l.map fun q => .slice q.1 q.2.1 q.2.2)) (hl : l.length ≤ 1000) (hgs : ∀ q ∈ l, ∀ x ∈ blkL q.1, x ∈ gs) :
    To Try.prog 18 [.slice (some ⟨gr, 0, none⟩) l.length l.length] w fun v w' => v = .bool true ∧ Chg gs w w' ∧ MS M w' := by
  obtain ⟨h1, h2, h3⟩ := rows_of l h hp ho hB
  have e : (l.map rowOf).length = l.length := by simp
  have := Owned.go w M hM gr (l.map rowOf) h1 (by omega) h2
  rw [e] at this
  exact this.mono fun v w' ⟨e, hc, hm, _⟩ => ⟨e, hc.mono (fun x hx => .inl (h3 gs hgs x hx)), hm⟩

def vineryref01_Order.l0 (a0 : List Int) (a1 : List Int) : Nat → Int → Option ((Int) ⊕ (Unit))
  | 0, _ => none
  | kk + 1, x7 => (if (if (decide (x7 < (a0.length : Int))) = true then (decide (x7 < (a1.length : Int))) else false) = true then (if 0 ≤ x7 ∧ x7 < (a0.length : Int) then (if 0 ≤ x7 ∧ x7 < (a1.length : Int) then (if (decide ((rd a0 x7) < (rd a1 x7))) = true then some (.inl (((-1 : Int) : Int))) else (if 0 ≤ x7 ∧ x7 < (a0.length : Int) then (if 0 ≤ x7 ∧ x7 < (a1.length : Int) then (if (decide ((rd a0 x7) > (rd a1 x7))) = true then some (.inl (((1 : Int) : Int))) else vineryref01_Order.l0 a0 a1 kk (IntKind.i64.wrap (x7 + (1 : Int)))) else none) else none)) else none) else none) else some (.inr (() : Unit)))
def vineryref01_Order.f (k : Nat) (a0 : List Int) (a1 : List Int) : Option (Int) := (vineryref01_Order.l0 a0 a1 k (0 : Int)).bind fun s6 => match s6 with | .inl r => some r | .inr s6' => (if (decide ((a0.length : Int) < (a1.length : Int))) = true then some (((-1 : Int) : Int)) else (if (decide ((a0.length : Int) > (a1.length : Int))) = true then some (((1 : Int) : Int)) else some (((0 : Int) : Int))))
set_option maxRecDepth 100000 in
theorem vineryref01_Order.walk (w : World) (M : List Nat) (hM : MS M w) (a0 : List Int) (ao1 : Option Addr) (cap1 : Nat) (f1 : RSl (rInt .u8) 5 w M ao1 cap1 a0) (a1 : List Int) (ao2 : Option Addr) (cap2 : Nat) (f2 : RSl (rInt .u8) 5 w M ao2 cap2 a1) (k : Nat) (r : Int) (H : vineryref01_Order.f k a0 a1 = some r) :
    To Try.prog 20 [.slice ao1 a0.length cap1, .slice ao2 a1.length cap2] w fun v w' => v = .int .i64 r ∧ Chg [] w w' ∧ MS (M) w' := by
  unfold vineryref01_Order.f at H
  refine ent Try.func20 rfl [(0, .slice ao1 a0.length cap1), (1, .slice ao2 a1.length cap2)] rfl (by rfl) fun a ha => ?_
  have hC : Chg [] w w := Chg.refl _ _
  refine wp_seq_k fun K3 hK3 => ?_
  refine wp_region_lit ?_
  refine seg ha 1 [(0, .slice ao1 a0.length cap1), (1, .slice ao2 a1.length cap2)] (by kernel_rfl) fun a ha => ?_
  refine hK3 _ _ ?_; clear hK3 K3
  refine wp_seq_k fun K4 hK4 => ?_
  refine wp_seq_k fun K5 hK5 => ?_
  refine wp_region_lit ?_
  refine seg ha 1 [(0, .slice ao1 a0.length cap1), (1, .slice ao2 a1.length cap2), (5, .int .i64 (0 : Int))] (by kernel_rfl) fun a ha => ?_
  refine hK5 _ _ ?_; clear hK5 K5
  refine wp_block ?_
  obtain ⟨s6, H6, H⟩ := bind_some H
  have J6 : ∀ s6' (a : Act) (wx6 : World), s6 = .inr s6' → Has a Try.f20.ntmps [(0, .slice ao1 a0.length cap1), (1, .slice ao2 a1.length cap2)] → (RSl (rInt .u8) 5 wx6 (M) ao1 cap1 a0) → (RSl (rInt .u8) 5 wx6 (M) ao2 cap2 a1) → (Chg [] w wx6) → (MS (M) wx6) → K4 a wx6 := by
    intro s6' a wx6 hs ha f1 f2 hC hM
    subst hs
    refine hK4 _ _ ?_; clear hK4 K4
    refine wp_seq_k fun K8 hK8 => ?_
    refine wp_seq_k fun K9 hK9 => ?_
    refine wp_region_lit ?_
    refine seg ha 5 [(0, .slice ao1 a0.length cap1), (1, .slice ao2 a1.length cap2), (40, .bool (decide ((a0.length : Int) < (a1.length : Int))))] (by kernel_rfl) fun a ha => ?_
    refine hK9 _ _ ?_; clear hK9 K9
    refine cnd ha rfl (fun hc10 => ?_) (fun hc10 => ?_)
    · have H := ite_t hc10 H
      refine wp_seq_k fun K11 hK11 => ?_
      refine wp_region_lit ?_
      refine seg ha 1 [(4, .int .i64 (-1 : Int))] (by kernel_rfl) fun a ha => ?_
      refine hK11 _ _ ?_; clear hK11 K11
      refine wp_ret ?_
      try simp only [Exit.then, Exit.inBlock]
      obtain rfl := Option.some.inj H
      refine rt1 ha rfl rfl ?_
      exact ⟨rfl, hC, hM⟩
    · have H := ite_f hc10 H
      refine wp_skip ?_
      refine hK8 _ _ ?_; clear hK8 K8
      refine wp_seq_k fun K12 hK12 => ?_
      refine wp_seq_k fun K13 hK13 => ?_
      refine wp_region_lit ?_
      refine seg ha 5 [(45, .bool (decide ((a0.length : Int) > (a1.length : Int))))] (by kernel_rfl) fun a ha => ?_
      refine hK13 _ _ ?_; clear hK13 K13
      refine cnd ha rfl (fun hc14 => ?_) (fun hc14 => ?_)
      · have H := ite_t hc14 H
        refine wp_seq_k fun K15 hK15 => ?_
        refine wp_region_lit ?_
        refine seg ha 1 [(4, .int .i64 (1 : Int))] (by kernel_rfl) fun a ha => ?_
        refine hK15 _ _ ?_; clear hK15 K15
        refine wp_ret ?_
        try simp only [Exit.then, Exit.inBlock]
        obtain rfl := Option.some.inj H
        refine rt1 ha rfl rfl ?_
        exact ⟨rfl, hC, hM⟩
      · have H := ite_f hc14 H
        refine wp_skip ?_
        refine hK12 _ _ ?_; clear hK12 K12
        refine wp_seq_k fun K16 hK16 => ?_
        refine wp_region_lit ?_
        refine seg ha 1 [(4, .int .i64 (0 : Int))] (by kernel_rfl) fun a ha => ?_
        refine hK16 _ _ ?_; clear hK16 K16
        refine wp_ret ?_
        try simp only [Exit.then, Exit.inBlock]
        obtain rfl := Option.some.inj H
        refine rt1 ha rfl rfl ?_
        exact ⟨rfl, hC, hM⟩
  have Hc6 := H
  have H := H6
  refine wp_loop_ghost (fun kk a w6 => ∃ (x7 : Int), vineryref01_Order.l0 a0 a1 kk x7 = some s6 ∧ Has a Try.f20.ntmps [(0, .slice ao1 a0.length cap1), (1, .slice ao2 a1.length cap2), (5, .int .i64 x7)] ∧ (RSl (rInt .u8) 5 w6 (M) ao1 cap1 a0) ∧ (RSl (rInt .u8) 5 w6 (M) ao2 cap2 a1) ∧ (Chg [] w w6) ∧ (MS (M) w6)) k ?_ ?_
  · skip
    exact ⟨(0 : Int), H, (ha.sel (by kernel_rfl)), f1, f2, hC, hM⟩
  · rintro kk a w6 ⟨x7, H, ha, f1, f2, hC, hM⟩
    obtain _ | kk := kk
    · exact nomatch (show none = some _ from H)
    rw [vineryref01_Order.l0] at H
    refine wp_seq_k fun K17 hK17 => ?_
    refine wp_seq_k fun K18 hK18 => ?_
    refine wp_region_lit ?_
    refine seg ha 10 [(0, .slice ao1 a0.length cap1), (1, .slice ao2 a1.length cap2), (5, .int .i64 x7), (15, .bool (if (decide (x7 < (a0.length : Int))) = true then (decide (x7 < (a1.length : Int))) else false))] (by kernel_rfl) fun a ha => ?_
    refine hK18 _ _ ?_; clear hK18 K18
    refine cnd ha rfl (fun hc19 => ?_) (fun hc19 => ?_)
    · have H := ite_t hc19 H
      refine wp_skip ?_
      refine hK17 _ _ ?_; clear hK17 K17
      refine wp_seq_k fun K20 hK20 => ?_
      refine wp_block ?_
      refine wp_seq_k fun K21 hK21 => ?_
      refine wp_seq_k fun K22 hK22 => ?_
      refine drq0 (fun w' => Chg [] w6 w') (by kernel_rfl) (by kernel_rfl) (fun _ h => h) ?_
      refine qp 0 (.slice ao1 a0.length cap1) ha rfl rfl rfl (by kernel_rfl) fun a ha => ?_
      refine qp 0 (.int .i64 x7) ha rfl rfl rfl (by kernel_rfl) fun a ha => ?_
      obtain ⟨⟨hx23, hx23'⟩, H⟩ := ite_some H
      obtain ⟨ge24, oe250, cs26, hx23eq, hn29, hR27, hE28⟩ := RSl.elem f1 (Int.toNat x7) (by omega)
      rw [rd_get] at hR27
      obtain rfl := hR27
      have hE28 : ∀ j v, ([.int .u8 (rd a0 x7)] : List Value)[j]? = some v → w6.cell? ⟨ge24, (oe250 + (Int.toNat x7) * (rInt .u8).sz) + j, none⟩ = some v := hE28
      refine qv (v := .pointer (some ⟨ge24, (oe250 + (Int.toNat x7) * (rInt .u8).sz), none⟩)) ha rfl rfl rfl (fun w' hs => ix_run (r := (rInt .u8)) (T := 5) ha (by kernel_rfl) (by kernel_rfl) (by rfl) (by rfl) hx23eq hx23 hx23') fun a ha => ?_
      refine qv (v := .int .u8 (rd a0 x7)) ha rfl rfl rfl (fun w' hs => ld_run ha rfl (by kernel_rfl) (hs.keep (hE28 0 (.int .u8 (rd a0 x7)) (by kernel_rfl)))) fun a ha => ?_
      refine qp 0 (.slice ao2 a1.length cap2) ha rfl rfl rfl (by kernel_rfl) fun a ha => ?_
      refine qp 0 (.int .i64 x7) ha rfl rfl rfl (by kernel_rfl) fun a ha => ?_
      obtain ⟨⟨hx30, hx30'⟩, H⟩ := ite_some H
      obtain ⟨ge31, oe320, cs33, hx30eq, hn36, hR34, hE35⟩ := RSl.elem f2 (Int.toNat x7) (by omega)
      rw [rd_get] at hR34
      obtain rfl := hR34
      have hE35 : ∀ j v, ([.int .u8 (rd a1 x7)] : List Value)[j]? = some v → w6.cell? ⟨ge31, (oe320 + (Int.toNat x7) * (rInt .u8).sz) + j, none⟩ = some v := hE35
      refine qv (v := .pointer (some ⟨ge31, (oe320 + (Int.toNat x7) * (rInt .u8).sz), none⟩)) ha rfl rfl rfl (fun w' hs => ix_run (r := (rInt .u8)) (T := 5) ha (by kernel_rfl) (by kernel_rfl) (by rfl) (by rfl) hx30eq hx30 hx30') fun a ha => ?_
      refine qv (v := .int .u8 (rd a1 x7)) ha rfl rfl rfl (fun w' hs => ld_run ha rfl (by kernel_rfl) (hs.keep (hE35 0 (.int .u8 (rd a1 x7)) (by kernel_rfl)))) fun a ha => ?_
      refine qp 0 (.bool (decide ((rd a0 x7) < (rd a1 x7)))) ha rfl rfl rfl (by kernel_rfl) fun a ha => ?_
      refine wpQuiet_nil ?_
      intro w37 hc38
      have o1 : Ok [] (M) w6.heap.size := Ok.nil _ _
      have o2 : Ok (M) (M) w6.heap.size := (fun _ h => .inl (h))
      have f1 := f1.chg hc38 o1 o2
      have f2 := f2.chg hc38 o1 o2
      have q_hn29 : ge24 ∉ M := fun h => (o2 ge24 h).elim hn29 (fun h => absurd (lt_cell (hE28 0 _ rfl)) (Nat.not_lt.2 h))
      have hE28 : ∀ j v, ([.int .u8 (rd a0 x7)] : List Value)[j]? = some v → w37.cell? ⟨ge24, (oe250 + (Int.toNat x7) * (rInt .u8).sz) + j, none⟩ = some v := fun j v hv => (cell_keep hc38 o1 hn29 (hE28 j v hv))
      have hn29 := q_hn29
      have q_hn36 : ge31 ∉ M := fun h => (o2 ge31 h).elim hn36 (fun h => absurd (lt_cell (hE35 0 _ rfl)) (Nat.not_lt.2 h))
      have hE35 : ∀ j v, ([.int .u8 (rd a1 x7)] : List Value)[j]? = some v → w37.cell? ⟨ge31, (oe320 + (Int.toNat x7) * (rInt .u8).sz) + j, none⟩ = some v := fun j v hv => (cell_keep hc38 o1 hn36 (hE35 j v hv))
      have hn36 := q_hn36
      have hM : MS (M) w37 := (fun x h => hM.chg hc38 x (h))
      have hC := hC.trans hc38 (Ok.nil _ _)
      refine wpl_end ?_
      refine hK22 _ _ ?_; clear hK22 K22
      refine cnd ha rfl (fun hc39 => ?_) (fun hc39 => ?_)
      · have H := ite_t hc39 H
        refine wp_seq_k fun K40 hK40 => ?_
        refine wp_region_lit ?_
        refine seg ha 1 [(4, .int .i64 (-1 : Int))] (by kernel_rfl) fun a ha => ?_
        refine hK40 _ _ ?_; clear hK40 K40
        refine wp_ret ?_
        try simp only [Exit.then, Exit.inBlock]
        obtain rfl := Option.some.inj H
        have H := (show some _ = some _ from Hc6)
        obtain rfl := Option.some.inj H
        refine rt1 ha rfl rfl ?_
        exact ⟨rfl, hC, hM⟩
      · have H := ite_f hc39 H
        refine wp_skip ?_
        refine hK21 _ _ ?_; clear hK21 K21
        refine wp_seq_k fun K41 hK41 => ?_
        refine drq0 (fun w' => Chg [] w37 w') (by kernel_rfl) (by kernel_rfl) (fun _ h => h) ?_
        refine qp 0 (.slice ao1 a0.length cap1) ha rfl rfl rfl (by kernel_rfl) fun a ha => ?_
        refine qp 0 (.int .i64 x7) ha rfl rfl rfl (by kernel_rfl) fun a ha => ?_
        obtain ⟨⟨hx42, hx42'⟩, H⟩ := ite_some H
        obtain ⟨ge43, oe440, cs45, hx42eq, hn48, hR46, hE47⟩ := RSl.elem f1 (Int.toNat x7) (by omega)
        rw [rd_get] at hR46
        obtain rfl := hR46
        have hE47 : ∀ j v, ([.int .u8 (rd a0 x7)] : List Value)[j]? = some v → w37.cell? ⟨ge43, (oe440 + (Int.toNat x7) * (rInt .u8).sz) + j, none⟩ = some v := hE47
        refine qv (v := .pointer (some ⟨ge43, (oe440 + (Int.toNat x7) * (rInt .u8).sz), none⟩)) ha rfl rfl rfl (fun w' hs => ix_run (r := (rInt .u8)) (T := 5) ha (by kernel_rfl) (by kernel_rfl) (by rfl) (by rfl) hx42eq hx42 hx42') fun a ha => ?_
        refine qv (v := .int .u8 (rd a0 x7)) ha rfl rfl rfl (fun w' hs => ld_run ha rfl (by kernel_rfl) (hs.keep (hE47 0 (.int .u8 (rd a0 x7)) (by kernel_rfl)))) fun a ha => ?_
        refine qp 0 (.slice ao2 a1.length cap2) ha rfl rfl rfl (by kernel_rfl) fun a ha => ?_
        refine qp 0 (.int .i64 x7) ha rfl rfl rfl (by kernel_rfl) fun a ha => ?_
        obtain ⟨⟨hx49, hx49'⟩, H⟩ := ite_some H
        obtain ⟨ge50, oe510, cs52, hx49eq, hn55, hR53, hE54⟩ := RSl.elem f2 (Int.toNat x7) (by omega)
        rw [rd_get] at hR53
        obtain rfl := hR53
        have hE54 : ∀ j v, ([.int .u8 (rd a1 x7)] : List Value)[j]? = some v → w37.cell? ⟨ge50, (oe510 + (Int.toNat x7) * (rInt .u8).sz) + j, none⟩ = some v := hE54
        refine qv (v := .pointer (some ⟨ge50, (oe510 + (Int.toNat x7) * (rInt .u8).sz), none⟩)) ha rfl rfl rfl (fun w' hs => ix_run (r := (rInt .u8)) (T := 5) ha (by kernel_rfl) (by kernel_rfl) (by rfl) (by rfl) hx49eq hx49 hx49') fun a ha => ?_
        refine qv (v := .int .u8 (rd a1 x7)) ha rfl rfl rfl (fun w' hs => ld_run ha rfl (by kernel_rfl) (hs.keep (hE54 0 (.int .u8 (rd a1 x7)) (by kernel_rfl)))) fun a ha => ?_
        refine qp 0 (.bool (decide ((rd a0 x7) > (rd a1 x7)))) ha rfl rfl rfl (by kernel_rfl) fun a ha => ?_
        refine wpQuiet_nil ?_
        intro w56 hc57
        have o1 : Ok [] (M) w37.heap.size := Ok.nil _ _
        have o2 : Ok (M) (M) w37.heap.size := (fun _ h => .inl (h))
        have f1 := f1.chg hc57 o1 o2
        have f2 := f2.chg hc57 o1 o2
        have q_hn48 : ge43 ∉ M := fun h => (o2 ge43 h).elim hn48 (fun h => absurd (lt_cell (hE47 0 _ rfl)) (Nat.not_lt.2 h))
        have hE47 : ∀ j v, ([.int .u8 (rd a0 x7)] : List Value)[j]? = some v → w56.cell? ⟨ge43, (oe440 + (Int.toNat x7) * (rInt .u8).sz) + j, none⟩ = some v := fun j v hv => (cell_keep hc57 o1 hn48 (hE47 j v hv))
        have hn48 := q_hn48
        have q_hn55 : ge50 ∉ M := fun h => (o2 ge50 h).elim hn55 (fun h => absurd (lt_cell (hE54 0 _ rfl)) (Nat.not_lt.2 h))
        have hE54 : ∀ j v, ([.int .u8 (rd a1 x7)] : List Value)[j]? = some v → w56.cell? ⟨ge50, (oe510 + (Int.toNat x7) * (rInt .u8).sz) + j, none⟩ = some v := fun j v hv => (cell_keep hc57 o1 hn55 (hE54 j v hv))
        have hn55 := q_hn55
        have hM : MS (M) w56 := (fun x h => hM.chg hc57 x (h))
        have hC := hC.trans hc57 (Ok.nil _ _)
        refine wpl_end ?_
        refine hK41 _ _ ?_; clear hK41 K41
        refine cnd ha rfl (fun hc58 => ?_) (fun hc58 => ?_)
        · have H := ite_t hc58 H
          refine wp_seq_k fun K59 hK59 => ?_
          refine wp_region_lit ?_
          refine seg ha 1 [(4, .int .i64 (1 : Int))] (by kernel_rfl) fun a ha => ?_
          refine hK59 _ _ ?_; clear hK59 K59
          refine wp_ret ?_
          try simp only [Exit.then, Exit.inBlock]
          obtain rfl := Option.some.inj H
          have H := (show some _ = some _ from Hc6)
          obtain rfl := Option.some.inj H
          refine rt1 ha rfl rfl ?_
          exact ⟨rfl, hC, hM⟩
        · have H := ite_f hc58 H
          refine wp_skip ?_
          refine hK20 _ _ ?_; clear hK20 K20
          refine wp_region_lit ?_
          refine seg ha 3 [(0, .slice ao1 a0.length cap1), (1, .slice ao2 a1.length cap2), (5, .int .i64 (IntKind.i64.wrap (x7 + (1 : Int))))] (by kernel_rfl) fun a ha => ?_
          exact ⟨kk, Nat.lt_succ_self _, ⟨IntKind.i64.wrap (x7 + (1 : Int)), H, (ha.sel (by kernel_rfl)), f1, f2, hC, hM⟩⟩
    · have H := ite_f hc19 H
      refine wp_exit ?_
      simp only [Exit.then, Exit.inBlock, ↓reduceIte, Nat.reduceEqDiff]
      obtain rfl := Option.some.inj H
      exact J6 _ _ _ rfl (ha.sel (by kernel_rfl)) f1 f2 hC hM
def vinerylaw01_CursorPuts.f (k : Nat) (a0 : List Int) (a1 : Int) (a2 : Int) (a3 : List Int) : Option (Bool) := (vinerylaw01_small.f k ).bind fun t5 => (Lent.f a0).bind fun t7 => (cursor_Put.f k t7 a1 a2).bind fun t10 => (vineryref01_Put.f k a0 a1 a2).bind fun t13 => (Kept.f t7 a0).bind fun t16 => ((if t5 = true then (if t16 = true then (if ((bstr (b2s t10.1)).toList == (bstr (b2s t13.1)).toList) = true then (if (t10.2 == t13.2) = true then (cursor_Order.f a0 a3).bind fun t30 => (vineryref01_Order.f k a0 a3).bind fun t31 => some (t30 == t31 : Bool) else some (false : Bool)) else some (false : Bool)) else some (false : Bool)) else some (false : Bool))).bind fun s25 => some ((s25 : Bool))
set_option maxRecDepth 100000 in
theorem vinerylaw01_CursorPuts.walk (w : World) (M : List Nat) (hM : MS M w) (a0 : List Int) (ao1 : Option Addr) (cap1 : Nat) (f1 : RSl (rInt .u8) 5 w M ao1 cap1 a0) (a1 : Int) (a2 : Int) (a3 : List Int) (ao2 : Option Addr) (cap2 : Nat) (f2 : RSl (rInt .u8) 5 w M ao2 cap2 a3) (k : Nat) (r : Bool) (H : vinerylaw01_CursorPuts.f k a0 a1 a2 a3 = some r) :
    To Try.prog 3 [.slice ao1 a0.length cap1, .int .i64 a1, .int .i64 a2, .slice ao2 a3.length cap2] w fun v w' => v = .bool r ∧ Chg [] w w' ∧ MS (M) w' := by
  unfold vinerylaw01_CursorPuts.f at H
  refine ent Try.func3 rfl [(0, .slice ao1 a0.length cap1), (1, .int .i64 a1), (2, .int .i64 a2), (3, .slice ao2 a3.length cap2)] rfl (by rfl) fun a ha => ?_
  have hC : Chg [] w w := Chg.refl _ _
  refine wp_seq_k fun K3 hK3 => ?_
  refine wp_region_lit ?_
  refine seg ha 1 [(0, .slice ao1 a0.length cap1), (1, .int .i64 a1), (2, .int .i64 a2), (3, .slice ao2 a3.length cap2)] (by kernel_rfl) fun a ha => ?_
  refine hK3 _ _ ?_; clear hK3 K3
  refine wp_seq_k fun K4 hK4 => ?_
  refine wp_region_lit ?_
  obtain ⟨t5, H5, H⟩ := bind_some H
  refine cl ha (by rfl) (by kernel_rfl) (by rfl) (by rfl) (by rfl) (vinerylaw01_small.walk w _ hM  k _ H5) ?_
  rintro _ w5 ⟨rfl, hc5, hMn⟩ a ha
  have o1 : Ok [] (M) w.heap.size := Ok.nil _ _
  have o2 : Ok (M) (M) w.heap.size := (fun _ h => .inl (h))
  have f1 := f1.chg hc5 o1 o2
  have f2 := f2.chg hc5 o1 o2
  have hM : MS (M) w5 := (fun x h => hM.chg hc5 x (h))
  have hC := hC.trans hc5 (Ok.nil _ _)
  refine seg ha 1 [(0, .slice ao1 a0.length cap1), (1, .int .i64 a1), (2, .int .i64 a2), (3, .slice ao2 a3.length cap2), (9, .bool t5)] (by kernel_rfl) fun a ha => ?_
  refine hK4 _ _ ?_; clear hK4 K4
  refine wp_seq_k fun K6 hK6 => ?_
  refine wp_region_lit ?_
  refine seg ha 1 [(0, .slice ao1 a0.length cap1), (1, .int .i64 a1), (2, .int .i64 a2), (3, .slice ao2 a3.length cap2), (9, .bool t5), (19, .slice ao1 a0.length cap1)] (by kernel_rfl) fun a ha => ?_
  obtain ⟨t7, H7, H⟩ := bind_some H
  refine cl ha (by rfl) (by kernel_rfl) (by rfl) (by rfl) (by rfl) (Lent.walk w5 _ hM a0 ao1 cap1 f1 _ H7) ?_
  rintro _ w7 ⟨ao8, cap8, rfl, f8, ne_i8, hc7, hMn⟩ a ha
  have o1 : Ok [] (M) w5.heap.size := Ok.nil _ _
  have o2 : Ok (blkL ao8 ++ (M)) (M) w5.heap.size := (Ok.app (fun x h => .inr (ne_i8 x h)) (fun _ h => .inl (h)))
  have f1 := f1.chg hc7 o1 o2
  have f2 := f2.chg hc7 o1 o2
  have nw : Ok (blkL ao8) (M) w5.heap.size := (fun x h => .inr (ne_i8 x h))
  have p_i8_M : ∀ x ∈ blkL ao8, x ∉ M := fun x hx hy => absurd (hM x (hy)) (Nat.not_lt.2 (ne_i8 x hx))
  have e_i8 : ∀ x ∈ blkL ao8, w.heap.size ≤ x := fun x hx => Nat.le_trans hC.size (ne_i8 x hx)
  have hM : MS (blkL ao8 ++ (M)) w7 := (MS.app (fun x h => hMn x (ml h)) (fun x h => hM.chg hc7 x (h)))
  have hC := hC.trans hc7 (Ok.nil _ _)
  refine seg ha 1 [(0, .slice ao1 a0.length cap1), (1, .int .i64 a1), (2, .int .i64 a2), (3, .slice ao2 a3.length cap2), (9, .bool t5), (10, .slice ao8 t7.length cap8)] (by kernel_rfl) fun a ha => ?_
  refine hK6 _ _ ?_; clear hK6 K6
  refine wp_seq_k fun K9 hK9 => ?_
  refine wp_region_lit ?_
  refine seg ha 3 [(0, .slice ao1 a0.length cap1), (1, .int .i64 a1), (2, .int .i64 a2), (3, .slice ao2 a3.length cap2), (9, .bool t5), (10, .slice ao8 t7.length cap8), (22, .slice ao8 t7.length cap8), (23, .int .i64 a1), (24, .int .i64 a2)] (by kernel_rfl) fun a ha => ?_
  have hML : MS (M) w7 := MS.rest hM (fun _ h => mr (h))
  have oL : Ok (M) (blkL ao8 ++ (M)) w7.heap.size := (fun _ h => .inl (mr (h)))
  obtain ⟨t10, H10, H⟩ := bind_some H
  refine cl ha (by rfl) (by kernel_rfl) (by rfl) (by rfl) (by rfl) (cursor_Put.walk w7 _ hML t7 ao8 cap8 (Len.toRSl (M' := M) f8 oL (fun x hx hm => p_i8_M x hx hm)) a1 a2 k _ H10) ?_
  rintro _ w10 ⟨ao11, cap11, rfl, f11, ne_i11, hc10, hMn⟩ a ha
  have o1 : Ok [] (blkL ao8 ++ (M)) w7.heap.size := Ok.nil _ _
  have o2 : Ok (blkL ao11 ++ (blkL ao8 ++ (M))) (blkL ao8 ++ (M)) w7.heap.size := (Ok.app (fun x h => .inr (ne_i11 x h)) (Ok.app (fun _ h => .inl (ml h)) (fun _ h => .inl (mr (h)))))
  have f1 := f1.chg hc10 o1 o2
  have f2 := f2.chg hc10 o1 o2
  have f8 := f8.chg hc10 o1 o2 (fun _ _ h => nomatch h) (fun _ h => mr (ml h))
  have nw : Ok (blkL ao11) (blkL ao8 ++ (M)) w7.heap.size := (fun x h => .inr (ne_i11 x h))
  have p_i11_i8 : ∀ x ∈ blkL ao11, x ∉ (blkL ao8) := fun x hx hy => absurd (hM x (ml hy)) (Nat.not_lt.2 (ne_i11 x hx))
  have p_i11_M : ∀ x ∈ blkL ao11, x ∉ M := fun x hx hy => absurd (hM x (mr (hy))) (Nat.not_lt.2 (ne_i11 x hx))
  have e_i11 : ∀ x ∈ blkL ao11, w.heap.size ≤ x := fun x hx => Nat.le_trans hC.size (ne_i11 x hx)
  have hM : MS (blkL ao11 ++ (blkL ao8 ++ (M))) w10 := (MS.app (fun x h => hMn x (ml h)) (MS.app (fun x h => hM.chg hc10 x (ml h)) (fun x h => hM.chg hc10 x (mr (h)))))
  have hC := hC.trans hc10 (Ok.nil _ _)
  have f11 := Own.re (M' := blkL ao11 ++ (blkL ao8 ++ (M))) (fun _ _ _ _ _ h => h) f11 (fun _ h => ml h)
  refine seg ha 5 [(0, .slice ao1 a0.length cap1), (1, .int .i64 a1), (2, .int .i64 a2), (3, .slice ao2 a3.length cap2), (9, .bool t5), (10, .slice ao8 t7.length cap8), (11, .slice ao11 t10.1.length cap11), (12, .int .i64 t10.2)] (by kernel_rfl) fun a ha => ?_
  refine hK9 _ _ ?_; clear hK9 K9
  refine wp_seq_k fun K12 hK12 => ?_
  refine wp_region_lit ?_
  refine seg ha 3 [(0, .slice ao1 a0.length cap1), (3, .slice ao2 a3.length cap2), (9, .bool t5), (10, .slice ao8 t7.length cap8), (11, .slice ao11 t10.1.length cap11), (12, .int .i64 t10.2), (29, .slice ao1 a0.length cap1), (30, .int .i64 a1), (31, .int .i64 a2)] (by kernel_rfl) fun a ha => ?_
  obtain ⟨t13, H13, H⟩ := bind_some H
  refine cl ha (by rfl) (by kernel_rfl) (by rfl) (by rfl) (by rfl) (vineryref01_Put.walk w10 _ hM a0 ao1 cap1 f1 a1 a2 k _ H13) ?_
  rintro _ w13 ⟨ao14, cap14, rfl, f14, ne_i14, hc13, hMn⟩ a ha
  have o1 : Ok [] (blkL ao11 ++ (blkL ao8 ++ (M))) w10.heap.size := Ok.nil _ _
  have o2 : Ok (blkL ao14 ++ (blkL ao11 ++ (blkL ao8 ++ (M)))) (blkL ao11 ++ (blkL ao8 ++ (M))) w10.heap.size := (Ok.app (fun x h => .inr (ne_i14 x h)) (Ok.app (fun _ h => .inl (ml h)) (Ok.app (fun _ h => .inl (mr (ml h))) (fun _ h => .inl (mr (mr (h)))))))
  have f1 := f1.chg hc13 o1 o2
  have f2 := f2.chg hc13 o1 o2
  have f8 := f8.chg hc13 o1 o2 (fun _ _ h => nomatch h) (fun _ h => mr (mr (ml h)))
  have f11 := f11.chg hc13 o1 o2 (fun _ _ h => nomatch h) (fun _ h => mr (ml h))
  have nw : Ok (blkL ao14) (blkL ao11 ++ (blkL ao8 ++ (M))) w10.heap.size := (fun x h => .inr (ne_i14 x h))
  have p_i14_i11 : ∀ x ∈ blkL ao14, x ∉ (blkL ao11) := fun x hx hy => absurd (hM x (ml hy)) (Nat.not_lt.2 (ne_i14 x hx))
  have p_i14_i8 : ∀ x ∈ blkL ao14, x ∉ (blkL ao8) := fun x hx hy => absurd (hM x (mr (ml hy))) (Nat.not_lt.2 (ne_i14 x hx))
  have p_i14_M : ∀ x ∈ blkL ao14, x ∉ M := fun x hx hy => absurd (hM x (mr (mr (hy)))) (Nat.not_lt.2 (ne_i14 x hx))
  have e_i14 : ∀ x ∈ blkL ao14, w.heap.size ≤ x := fun x hx => Nat.le_trans hC.size (ne_i14 x hx)
  have hM : MS (blkL ao14 ++ (blkL ao11 ++ (blkL ao8 ++ (M)))) w13 := (MS.app (fun x h => hMn x (ml h)) (MS.app (fun x h => hM.chg hc13 x (ml h)) (MS.app (fun x h => hM.chg hc13 x (mr (ml h))) (fun x h => hM.chg hc13 x (mr (mr (h)))))))
  have hC := hC.trans hc13 (Ok.nil _ _)
  refine seg ha 5 [(0, .slice ao1 a0.length cap1), (3, .slice ao2 a3.length cap2), (9, .bool t5), (10, .slice ao8 t7.length cap8), (11, .slice ao11 t10.1.length cap11), (12, .int .i64 t10.2), (13, .slice ao14 t13.1.length cap14), (14, .int .i64 t13.2)] (by kernel_rfl) fun a ha => ?_
  refine hK12 _ _ ?_; clear hK12 K12
  refine wp_seq_k fun K15 hK15 => ?_
  refine wp_region_lit ?_
  refine seg ha 2 [(0, .slice ao1 a0.length cap1), (3, .slice ao2 a3.length cap2), (9, .bool t5), (10, .slice ao8 t7.length cap8), (11, .slice ao11 t10.1.length cap11), (12, .int .i64 t10.2), (13, .slice ao14 t13.1.length cap14), (14, .int .i64 t13.2), (35, .slice ao8 t7.length cap8), (36, .slice ao1 a0.length cap1)] (by kernel_rfl) fun a ha => ?_
  obtain ⟨t16, H16, H⟩ := bind_some H
  refine cl ha (by rfl) (by kernel_rfl) (by rfl) (by rfl) (by rfl) (Kept.walk w13 _ hM t7 ao8 cap8 f8 a0 ao1 cap1 f1 _ H16) ?_
  rintro _ w16 ⟨rfl, hc16, hMn⟩ a ha
  have o1 : Ok [] (blkL ao14 ++ (blkL ao11 ++ (blkL ao8 ++ (M)))) w13.heap.size := Ok.nil _ _
  have o2 : Ok (blkL ao14 ++ (blkL ao11 ++ (blkL ao8 ++ (M)))) (blkL ao14 ++ (blkL ao11 ++ (blkL ao8 ++ (M)))) w13.heap.size := (Ok.app (fun _ h => .inl (ml h)) (Ok.app (fun _ h => .inl (mr (ml h))) (Ok.app (fun _ h => .inl (mr (mr (ml h)))) (fun _ h => .inl (mr (mr (mr (h))))))))
  have f1 := f1.chg hc16 o1 o2
  have f2 := f2.chg hc16 o1 o2
  have f8 := f8.chg hc16 o1 o2 (fun _ _ h => nomatch h) (fun _ h => mr (mr (ml h)))
  have f11 := f11.chg hc16 o1 o2 (fun _ _ h => nomatch h) (fun _ h => mr (ml h))
  have f14 := f14.chg hc16 o1 o2 (fun _ _ h => nomatch h) (fun _ h => ml h)
  have hM : MS (blkL ao14 ++ (blkL ao11 ++ (blkL ao8 ++ (M)))) w16 := (MS.app (fun x h => hM.chg hc16 x (ml h)) (MS.app (fun x h => hM.chg hc16 x (mr (ml h))) (MS.app (fun x h => hM.chg hc16 x (mr (mr (ml h)))) (fun x h => hM.chg hc16 x (mr (mr (mr (h))))))))
  have hC := hC.trans hc16 (Ok.nil _ _)
  refine seg ha 1 [(0, .slice ao1 a0.length cap1), (3, .slice ao2 a3.length cap2), (9, .bool t5), (10, .slice ao8 t7.length cap8), (11, .slice ao11 t10.1.length cap11), (12, .int .i64 t10.2), (13, .slice ao14 t13.1.length cap14), (14, .int .i64 t13.2), (15, .bool t16)] (by kernel_rfl) fun a ha => ?_
  refine hK15 _ _ ?_; clear hK15 K15
  refine wp_seq_k fun K17 hK17 => ?_
  refine wp_region_lit ?_
  refine seg ha 1 [(0, .slice ao1 a0.length cap1), (3, .slice ao2 a3.length cap2), (9, .bool t5), (10, .slice ao8 t7.length cap8), (11, .slice ao11 t10.1.length cap11), (12, .int .i64 t10.2), (13, .slice ao14 t13.1.length cap14), (14, .int .i64 t13.2), (15, .bool t16), (38, .slice ao11 t10.1.length cap11)] (by kernel_rfl) fun a ha => ?_
  refine cvs ha rfl (by kernel_rfl) (by kernel_rfl) (by kernel_rfl) rfl rfl rfl (Own.toRSl (M' := []) f11 (Ok.nil _ _) (fun _ _ h => nomatch h)) fun a ha => ?_
  refine seg ha 1 [(0, .slice ao1 a0.length cap1), (3, .slice ao2 a3.length cap2), (9, .bool t5), (10, .slice ao8 t7.length cap8), (11, .slice ao11 t10.1.length cap11), (12, .int .i64 t10.2), (14, .int .i64 t13.2), (15, .bool t16), (39, .string (bstr (b2s t10.1))), (40, .slice ao14 t13.1.length cap14)] (by kernel_rfl) fun a ha => ?_
  refine cvs ha rfl (by kernel_rfl) (by kernel_rfl) (by kernel_rfl) rfl rfl rfl (Own.toRSl (M' := []) f14 (Ok.nil _ _) (fun _ _ h => nomatch h)) fun a ha => ?_
  refine seg ha 2 [(0, .slice ao1 a0.length cap1), (3, .slice ao2 a3.length cap2), (9, .bool t5), (10, .slice ao8 t7.length cap8), (11, .slice ao11 t10.1.length cap11), (12, .int .i64 t10.2), (14, .int .i64 t13.2), (15, .bool t16), (16, .bool ((bstr (b2s t10.1)).toList == (bstr (b2s t13.1)).toList))] (by kernel_rfl) fun a ha => ?_
  refine hK17 _ _ ?_; clear hK17 K17
  refine wp_seq_k fun K18 hK18 => ?_
  refine wp_region_lit ?_
  refine seg ha 2 [(0, .slice ao1 a0.length cap1), (3, .slice ao2 a3.length cap2), (9, .bool t5), (12, .int .i64 t10.2), (14, .int .i64 t13.2), (15, .bool t16), (16, .bool ((bstr (b2s t10.1)).toList == (bstr (b2s t13.1)).toList)), (43, .slice ao11 t10.1.length cap11), (44, .slice ao8 t7.length cap8)] (by kernel_rfl) fun a ha => ?_
  refine bsl (vals := ([.slice ao11 t10.1.length cap11, .slice ao8 t7.length cap8] : List Value)) (T := 22) ha rfl (([.slice ao11 t10.1.length cap11] : List Value) ++ (([.slice ao8 t7.length cap8] : List Value) ++ ([] : List Value))) (fun w => by kernel_rfl) rfl rfl rfl fun a w19 g20 hN21 ha => ?_
  have hgr22 : ∀ x ∈ (blkL ao14 ++ (blkL ao11 ++ (blkL ao8 ++ (M)))), x ≠ g20 := fun x h e => absurd (hM x h) (Nat.not_lt.2 (by rw [e]; exact hN21.ge))
  have o1 : Ok [] (blkL ao14 ++ (blkL ao11 ++ (blkL ao8 ++ (M)))) w16.heap.size := Ok.nil _ _
  have o2 : Ok (blkL ao14 ++ (blkL ao11 ++ (blkL ao8 ++ (M)))) (blkL ao14 ++ (blkL ao11 ++ (blkL ao8 ++ (M)))) w16.heap.size := (Ok.app (fun _ h => .inl (ml h)) (Ok.app (fun _ h => .inl (mr (ml h))) (Ok.app (fun _ h => .inl (mr (mr (ml h)))) (fun _ h => .inl (mr (mr (mr (h))))))))
  have f1 := f1.chg hN21.chg o1 o2
  have f2 := f2.chg hN21.chg o1 o2
  have f11 := f11.chg hN21.chg o1 o2 (fun _ _ h => nomatch h) (fun _ h => mr (ml h))
  have f8 := f8.chg hN21.chg o1 o2 (fun _ _ h => nomatch h) (fun _ h => mr (mr (ml h)))
  have hM : MS (blkL ao14 ++ (blkL ao11 ++ (blkL ao8 ++ (M)))) w19 := (MS.app (fun x h => hM.chg hN21.chg x (ml h)) (MS.app (fun x h => hM.chg hN21.chg x (mr (ml h))) (MS.app (fun x h => hM.chg hN21.chg x (mr (mr (ml h)))) (fun x h => hM.chg hN21.chg x (mr (mr (mr (h))))))))
  have hC := hC.trans hN21.chg (Ok.nil _ _)
  have hB22 : Box w19 g20 ([.slice ao11 t10.1.length cap11, .slice ao8 t7.length cap8] : List Value) := hN21.box
  refine cl ha (by rfl) (by kernel_rfl) (by rfl) (by rfl) (by rfl) (Owned.call w19 _ hM g20 [(ao11, t10.1.length, cap11), (ao8, t7.length, cap8)] (blkL ao11 ++ blkL ao8) (List.forall_mem_cons.2 ⟨f11.rowOk, (List.forall_mem_cons.2 ⟨f8.rowOk, (fun _ h => nomatch h)⟩)⟩) (List.Pairwise.cons (List.forall_mem_cons.2 ⟨(p_i11_i8), (fun _ h => nomatch h)⟩) (List.Pairwise.cons (fun _ h => nomatch h) List.Pairwise.nil)) (List.forall_mem_cons.2 ⟨(fun h => hgr22 _ (mr (ml h)) rfl), (List.forall_mem_cons.2 ⟨(fun h => hgr22 _ (mr (mr (ml h))) rfl), (fun _ h => nomatch h)⟩)⟩) hB22 (Nat.le_of_ble_eq_true rfl) (List.forall_mem_cons.2 ⟨(fun _ h => (List.mem_append_left _ h)), (List.forall_mem_cons.2 ⟨(fun _ h => (List.mem_append_right _ h)), (fun _ h => nomatch h)⟩)⟩)) ?_
  rintro _ w23 ⟨rfl, hc23, _⟩ a ha
  have o1 : Ok (blkL ao11 ++ blkL ao8) (blkL ao14 ++ (blkL ao11 ++ (blkL ao8 ++ (M)))) w19.heap.size := (Ok.app (fun _ h => .inl (mr (ml h))) (fun _ h => .inl (mr (mr (ml h)))))
  have o2 : Ok (blkL ao14 ++ (M)) (blkL ao14 ++ (blkL ao11 ++ (blkL ao8 ++ (M)))) w19.heap.size := (Ok.app (fun _ h => .inl (ml h)) (fun _ h => .inl (mr (mr (mr (h))))))
  have f1 := f1.chg hc23 o1 o2
  have f2 := f2.chg hc23 o1 o2
  have hM : MS (blkL ao14 ++ (M)) w23 := (MS.app (fun x h => hM.chg hc23 x (ml h)) (fun x h => hM.chg hc23 x (mr (mr (mr (h))))))
  have hC := hC.trans hc23 (Ok.app (fun x h => .inr (e_i11 x h)) (fun x h => .inr (e_i8 x h)))
  refine seg ha 1 [(0, .slice ao1 a0.length cap1), (3, .slice ao2 a3.length cap2), (9, .bool t5), (12, .int .i64 t10.2), (14, .int .i64 t13.2), (15, .bool t16), (16, .bool ((bstr (b2s t10.1)).toList == (bstr (b2s t13.1)).toList)), (17, .bool true)] (by kernel_rfl) fun a ha => ?_
  refine hK18 _ _ ?_; clear hK18 K18
  refine wp_seq_k fun K24 hK24 => ?_
  refine wp_region_lit ?_
  obtain ⟨s25, H25, H⟩ := bind_some H
  have J25 : ∀ (a : Act) (w25 : World), Has a Try.f3.ntmps [(8, .bool s25)] → (Chg [] w w25) → (MS (M) w25) → K24 a w25 := by
    intro a w25 ha hC hM
    refine hK24 _ _ ?_; clear hK24 K24
    refine wp_ret ?_
    try simp only [Exit.then, Exit.inBlock]
    obtain rfl := Option.some.inj H
    refine rt1 ha rfl rfl ?_
    exact ⟨rfl, hC, hM⟩
  have H := H25
  refine seg ha 2 [(48, .bool t5), (0, .slice ao1 a0.length cap1), (3, .slice ao2 a3.length cap2), (12, .int .i64 t10.2), (14, .int .i64 t13.2), (15, .bool t16), (16, .bool ((bstr (b2s t10.1)).toList == (bstr (b2s t13.1)).toList)), (17, .bool true)] (by kernel_rfl) fun a ha => ?_
  rcases Bool.eq_false_or_eq_true (t5) with hb26 | hb26
  · have ha := ha.lit hb26
    have H := ite_t hb26 H
    refine sgh ha 3 [2, 3, 0] [(51, .bool t16), (0, .slice ao1 a0.length cap1), (3, .slice ao2 a3.length cap2), (12, .int .i64 t10.2), (14, .int .i64 t13.2), (16, .bool ((bstr (b2s t10.1)).toList == (bstr (b2s t13.1)).toList)), (17, .bool true)] (by kernel_rfl) fun a ha => ?_
    rcases Bool.eq_false_or_eq_true (t16) with hb27 | hb27
    · have ha := ha.lit hb27
      have H := ite_t hb27 H
      refine sgh ha 3 [2, 3, 0] [(54, .bool ((bstr (b2s t10.1)).toList == (bstr (b2s t13.1)).toList)), (0, .slice ao1 a0.length cap1), (3, .slice ao2 a3.length cap2), (12, .int .i64 t10.2), (14, .int .i64 t13.2), (17, .bool true)] (by kernel_rfl) fun a ha => ?_
      rcases Bool.eq_false_or_eq_true ((bstr (b2s t10.1)).toList == (bstr (b2s t13.1)).toList) with hb28 | hb28
      · have ha := ha.lit hb28
        have H := ite_t hb28 H
        refine sgh ha 8 [2, 3, 0, 2, 2, 2, 3, 0] [(62, .bool (t10.2 == t13.2)), (0, .slice ao1 a0.length cap1), (3, .slice ao2 a3.length cap2)] (by kernel_rfl) fun a ha => ?_
        rcases Bool.eq_false_or_eq_true (t10.2 == t13.2) with hb29 | hb29
        · have ha := ha.lit hb29
          have H := ite_t hb29 H
          refine sgh ha 2 [2, 2] [(0, .slice ao1 a0.length cap1), (3, .slice ao2 a3.length cap2), (62, .bool true), (63, .slice ao1 a0.length cap1), (64, .slice ao2 a3.length cap2)] (by kernel_rfl) fun a ha => ?_
          obtain ⟨t30, H30, H⟩ := bind_some H
          refine cl ha (by rfl) (by kernel_rfl) (by rfl) (by rfl) (by rfl) (cursor_Order.walk w23 _ hM a0 ao1 cap1 f1 a3 ao2 cap2 f2 _ H30) ?_
          rintro _ w30 ⟨rfl, hc30, hMn⟩ a ha
          have o1 : Ok [] (blkL ao14 ++ (M)) w23.heap.size := Ok.nil _ _
          have o2 : Ok (blkL ao14 ++ (M)) (blkL ao14 ++ (M)) w23.heap.size := (Ok.app (fun _ h => .inl (ml h)) (fun _ h => .inl (mr (h))))
          have f1 := f1.chg hc30 o1 o2
          have f2 := f2.chg hc30 o1 o2
          have hM : MS (blkL ao14 ++ (M)) w30 := (MS.app (fun x h => hM.chg hc30 x (ml h)) (fun x h => hM.chg hc30 x (mr (h))))
          have hC := hC.trans hc30 (Ok.nil _ _)
          refine sgh ha 2 [2, 2] [(62, .bool true), (65, .int .i64 t30), (66, .slice ao1 a0.length cap1), (67, .slice ao2 a3.length cap2)] (by kernel_rfl) fun a ha => ?_
          obtain ⟨t31, H31, H⟩ := bind_some H
          refine cl ha (by rfl) (by kernel_rfl) (by rfl) (by rfl) (by rfl) (vineryref01_Order.walk w30 _ hM a0 ao1 cap1 f1 a3 ao2 cap2 f2 k _ H31) ?_
          rintro _ w31 ⟨rfl, hc31, hMn⟩ a ha
          have o1 : Ok [] (blkL ao14 ++ (M)) w30.heap.size := Ok.nil _ _
          have o2 : Ok (blkL ao14 ++ (M)) (blkL ao14 ++ (M)) w30.heap.size := (Ok.app (fun _ h => .inl (ml h)) (fun _ h => .inl (mr (h))))
          have f1 := f1.chg hc31 o1 o2
          have f2 := f2.chg hc31 o1 o2
          have hM : MS (blkL ao14 ++ (M)) w31 := (MS.app (fun x h => hM.chg hc31 x (ml h)) (fun x h => hM.chg hc31 x (mr (h))))
          have hC := hC.trans hc31 (Ok.nil _ _)
          refine sgh ha 3 [2, 3, 0] [(8, .bool (t30 == t31))] (by kernel_rfl) fun a ha => ?_
          obtain rfl := Option.some.inj H
          have o1 : Ok [] (blkL ao14 ++ (M)) w31.heap.size := Ok.nil _ _
          have o2 : Ok (M) (blkL ao14 ++ (M)) w31.heap.size := (fun _ h => .inl (mr (h)))
          have hM : MS (M) w31 := (fun x h => hM.chg (Chg.refl [] _) x (mr (h)))
          have hC := hC.trans (Chg.refl [] _) (Ok.nil _ _)
          exact J25 _ _ (ha.sel (by kernel_rfl)) hC hM
        · have ha := ha.lit hb29
          have H := ite_f hb29 H
          refine sgh ha 9 [1, 1, 1, 1, 1, 1, 1, 4, 0] [(8, .bool false)] (by kernel_rfl) fun a ha => ?_
          obtain rfl := Option.some.inj H
          have o1 : Ok [] (blkL ao14 ++ (M)) w23.heap.size := Ok.nil _ _
          have o2 : Ok (M) (blkL ao14 ++ (M)) w23.heap.size := (fun _ h => .inl (mr (h)))
          have hM : MS (M) w23 := (fun x h => hM.chg (Chg.refl [] _) x (mr (h)))
          have hC := hC.trans (Chg.refl [] _) (Ok.nil _ _)
          exact J25 _ _ (ha.sel (by kernel_rfl)) hC hM
      · have ha := ha.lit hb28
        have H := ite_f hb28 H
        refine sgh ha 17 [1, 4, 0, 1, 1, 1, 4, 0, 1, 1, 1, 1, 1, 1, 1, 4, 0] [(8, .bool false)] (by kernel_rfl) fun a ha => ?_
        obtain rfl := Option.some.inj H
        have o1 : Ok [] (blkL ao14 ++ (M)) w23.heap.size := Ok.nil _ _
        have o2 : Ok (M) (blkL ao14 ++ (M)) w23.heap.size := (fun _ h => .inl (mr (h)))
        have hM : MS (M) w23 := (fun x h => hM.chg (Chg.refl [] _) x (mr (h)))
        have hC := hC.trans (Chg.refl [] _) (Ok.nil _ _)
        exact J25 _ _ (ha.sel (by kernel_rfl)) hC hM
    · have ha := ha.lit hb27
      have H := ite_f hb27 H
      refine sgh ha 20 [1, 4, 0, 1, 4, 0, 1, 1, 1, 4, 0, 1, 1, 1, 1, 1, 1, 1, 4, 0] [(8, .bool false)] (by kernel_rfl) fun a ha => ?_
      obtain rfl := Option.some.inj H
      have o1 : Ok [] (blkL ao14 ++ (M)) w23.heap.size := Ok.nil _ _
      have o2 : Ok (M) (blkL ao14 ++ (M)) w23.heap.size := (fun _ h => .inl (mr (h)))
      have hM : MS (M) w23 := (fun x h => hM.chg (Chg.refl [] _) x (mr (h)))
      have hC := hC.trans (Chg.refl [] _) (Ok.nil _ _)
      exact J25 _ _ (ha.sel (by kernel_rfl)) hC hM
  · have ha := ha.lit hb26
    have H := ite_f hb26 H
    refine sgh ha 23 [1, 4, 0, 1, 4, 0, 1, 4, 0, 1, 1, 1, 4, 0, 1, 1, 1, 1, 1, 1, 1, 4, 0] [(8, .bool false)] (by kernel_rfl) fun a ha => ?_
    obtain rfl := Option.some.inj H
    have o1 : Ok [] (blkL ao14 ++ (M)) w23.heap.size := Ok.nil _ _
    have o2 : Ok (M) (blkL ao14 ++ (M)) w23.heap.size := (fun _ h => .inl (mr (h)))
    have hM : MS (M) w23 := (fun x h => hM.chg (Chg.refl [] _) x (mr (h)))
    have hC := hC.trans (Chg.refl [] _) (Ok.nil _ _)
    exact J25 _ _ (ha.sel (by kernel_rfl)) hC hM
end Go.E
