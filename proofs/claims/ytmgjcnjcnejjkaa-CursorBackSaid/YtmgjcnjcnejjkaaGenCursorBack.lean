/- What the functions that the law reaches compute, and the walks that show it. -/
import Derived.Test.YtmgjcnjcnejjkaaEngR
import Derived.Test.YtmgjcnjcnejjkaaProg
set_option linter.unusedVariables false
set_option linter.unusedSimpArgs false
namespace Go.E
open Go.RowKit Go.Proofs
structure S_cursor_rest where
  left : List Int
  bad : Bool
  deriving DecidableEq, Inhabited
def rS_cursor_rest : Rep S_cursor_rest := rIso (fun x : S_cursor_rest => (x.left, x.bad)) (rPair (rSl 5 (rInt .u8)) rBool)
def okS_cursor_rest (x : S_cursor_rest) : Prop := (okL 1 (okI .u8)) x.left ∧ okB x.bad
structure S_cursor_Reader where
  rest : S_cursor_rest
  deriving DecidableEq, Inhabited
def rS_cursor_Reader : Rep S_cursor_Reader := rIso (fun x : S_cursor_Reader => x.rest) rS_cursor_rest
def okS_cursor_Reader (x : S_cursor_Reader) : Prop := (okS_cursor_rest) x.rest

def bytes_Clone.f (a0 : List Int) : Option (List Int) := if a0.length ≤ 140737488355328 then some a0 else none
theorem bytes_Clone.walk (w : World) (M : List Nat) (hM : MS M w) (a0 : List Int) (ao1 : Option Addr) (cap1 : Nat) (f1 : RSl (rInt .u8) 5 w M ao1 cap1 a0) (r : List Int) (H : bytes_Clone.f a0 = some r) :
    To Try.prog 46 [.slice ao1 a0.length cap1] w fun v w' => ∃ (ao2 : Option Addr) (cap2 : Nat), v = .slice ao2 r.length cap2 ∧ (Own (rInt .u8) 5 w' (blkL ao2 ++ M) ao2 cap2 r) ∧ (∀ x ∈ blkL ao2, w.heap.size ≤ x) ∧ Chg [] w w' ∧ MS (blkL ao2 ++ M) w' := by
  unfold bytes_Clone.f at H
  obtain ⟨hb, H⟩ := ite_some H
  obtain rfl := Option.some.inj H
  refine ent Try.func46 rfl [(0, .slice ao1 a0.length cap1)] rfl rfl fun a ha => ?_
  refine wp_seq_k fun K hK => ?_
  refine wp_region_lit ?_
  refine seg ha 1 [(0, .slice ao1 a0.length cap1)] (by kernel_rfl) fun a ha => ?_
  refine hK _ _ ?_; clear hK K
  refine wp_seq_k fun K hK => ?_
  refine wp_seq_k fun K2 hK2 => ?_
  refine wp_region_lit ?_
  refine seg ha 2 [(0, .slice ao1 a0.length cap1), (4, .bool ao1.isNone)] (by kernel_rfl) fun a ha => ?_
  refine hK2 _ _ ?_; clear hK2 K2
  refine cnd ha rfl (fun hc => ?_) (fun hc => ?_)
  · refine wp_seq_k fun K2 hK2 => ?_
    refine wp_region_lit ?_
    refine seg ha 1 [(2, .slice none 0 0)] (by kernel_rfl) fun a ha => ?_
    refine hK2 _ _ ?_; clear hK2 K2
    refine wp_ret ?_
    have hx : a0 = [] := by
      rcases f1 with ⟨_, _, h | ⟨g, o, cur, fr, e, _⟩⟩
      · exact h
      · subst e; simp at hc
    simp only [Exit.then]
    refine rt1 ha rfl rfl ?_
    exact ⟨none, 0, by rw [hx]; rfl, by rw [hx]; exact Own.nil, (fun _ h => nomatch h), Chg.refl _ _, hM⟩
  · refine wp_skip ?_
    refine hK _ _ ?_; clear hK K
    refine wp_seq_k fun K hK => ?_
    refine wp_region_lit ?_
    refine bsl (vals := []) (T := 5) ha rfl [] (fun w => by kernel_rfl) rfl rfl rfl fun a w1 g hN ha => ?_
    refine seg ha 1 [(0, .slice ao1 a0.length cap1), (5, .slice (some ⟨g, 0, none⟩) 0 0), (6, .slice ao1 a0.length cap1)] (by kernel_rfl) fun a ha => ?_
    have hO : Own (rInt .u8) 5 w1 ([g] ++ M) (some ⟨g, 0, none⟩) 0 [] := hN.own rfl (Nat.zero_le _)
    have h1 : RSl (rInt .u8) 5 w1 ([g] ++ M) ao1 cap1 a0 := f1.chg hN.chg (Ok.nil _ _) (Ok.app (hN.ok _) (Ok.refl _ _))
    refine app (r := rInt .u8) (xs := []) ha (ElemT.mk' (bytes := 1) (by kernel_rfl)) rfl rfl rfl rfl rfl hO h1.src (by simpa using hb) (by decide) fun a w2 ao2 cap2 hO2 hc2 hok hlt ha => ?_
    refine seg ha 1 [(2, .slice ao2 ([] ++ a0).length cap2)] (by kernel_rfl) fun a ha => ?_
    refine hK _ _ ?_; clear hK K
    refine wp_ret ?_
    refine rt1 ha rfl rfl ⟨ao2, cap2, rfl, ?_, ?_, ?_, ?_⟩
    · exact hO2.chg (Chg.refl [] _) (Ok.nil _ _) (Ok.app (fun g hg => .inl (ml hg)) (fun g hg => .inl (mr (mr hg)))) (fun _ _ hh => nomatch hh) (fun g hg => ml hg)
    · intro x hx
      rcases hok x hx with h | h
      · simp [blkL] at h; subst h; exact hN.ge
      · exact Nat.le_trans hN.chg.size h
    · exact hN.chg.trans hc2 (Ok.one (.inr hN.ge))
    · exact MS.app hlt ((hM.chg hN.chg).chg hc2)

def cursor_Open.f (a0 : List Int) : Option (S_cursor_Reader) := (bytes_Clone.f a0).bind fun t4 => some (((⟨(⟨t4, false⟩ : S_cursor_rest)⟩ : S_cursor_Reader) : S_cursor_Reader))
set_option maxRecDepth 100000 in
theorem cursor_Open.walk (w : World) (M : List Nat) (hM : MS M w) (a0 : List Int) (ao1 : Option Addr) (cap1 : Nat) (f1 : RSl (rInt .u8) 5 w M ao1 cap1 a0) (r : S_cursor_Reader) (H : cursor_Open.f a0 = some r) :
    To Try.prog 21 [.slice ao1 a0.length cap1] w fun v w' => ∃ (g10 : Nat) (ao12 : Option Addr) (cap12 : Nat), v = .pointer (some ⟨g10, 0, none⟩) ∧ (RSl (rInt .u8) 5 w' ([g10] ++ (M)) ao12 cap12 r.rest.left) ∧ (Box w' g10 ([.slice ao12 r.rest.left.length cap12, .bool r.rest.bad] : List Value)) ∧ (∀ x ∈ [g10], w.heap.size ≤ x) ∧ Chg [] w w' ∧ MS ([g10] ++ (M)) w' := by
  unfold cursor_Open.f at H
  refine ent Try.func21 rfl [(0, .slice ao1 a0.length cap1)] rfl (by rfl) fun a ha => ?_
  have hC : Chg [] w w := Chg.refl _ _
  refine wp_seq_k fun K2 hK2 => ?_
  refine wp_region_lit ?_
  refine seg ha 1 [(0, .slice ao1 a0.length cap1)] (by kernel_rfl) fun a ha => ?_
  refine hK2 _ _ ?_; clear hK2 K2
  refine wp_seq_k fun K3 hK3 => ?_
  refine wp_region_lit ?_
  refine seg ha 1 [(3, .slice ao1 a0.length cap1)] (by kernel_rfl) fun a ha => ?_
  obtain ⟨t4, H4, H⟩ := bind_some H
  refine cl ha (by rfl) (by kernel_rfl) (by rfl) (by rfl) (by rfl) (bytes_Clone.walk w _ hM a0 ao1 cap1 f1 _ H4) ?_
  rintro _ w4 ⟨ao5, cap5, rfl, f5, ne_i5, hc4, hMn⟩ a ha
  have o1 : Ok [] (M) w.heap.size := Ok.nil _ _
  have o2 : Ok (blkL ao5 ++ (M)) (M) w.heap.size := (Ok.app (fun x h => .inr (ne_i5 x h)) (fun _ h => .inl (h)))
  have f1 := f1.chg hc4 o1 o2
  have nw : Ok (blkL ao5) (M) w.heap.size := (fun x h => .inr (ne_i5 x h))
  have p_i5_M : ∀ x ∈ blkL ao5, x ∉ M := fun x hx hy => absurd (hM x (hy)) (Nat.not_lt.2 (ne_i5 x hx))
  have e_i5 : ∀ x ∈ blkL ao5, w.heap.size ≤ x := fun x hx => Nat.le_trans hC.size (ne_i5 x hx)
  have hM : MS (blkL ao5 ++ (M)) w4 := (MS.app (fun x h => hMn x (ml h)) (fun x h => hM.chg hc4 x (h)))
  have hC := hC.trans hc4 (Ok.nil _ _)
  refine opk (v := .agg ([.slice ao5 t4.length cap5, .bool false] : List Value).toArray) ha rfl rfl rfl rfl rfl (fun w => by kernel_rfl) fun a ha => ?_
  refine opk (v := .agg ([.slice ao5 t4.length cap5, .bool false] : List Value).toArray) ha rfl rfl rfl rfl rfl (fun w => by kernel_rfl) fun a ha => ?_
  have fz := f5.toRSl (M' := M) (fun _ h => .inl (mr (h))) (fun x hx hm => p_i5_M x hx hm)
  have o1 : Ok [] (blkL ao5 ++ (M)) w4.heap.size := Ok.nil _ _
  have o2 : Ok (M) (blkL ao5 ++ (M)) w4.heap.size := (fun _ h => .inl (mr (h)))
  have hM : MS (M) w4 := (fun x h => hM.chg (Chg.refl [] _) x (mr (h)))
  have hC := hC.trans (Chg.refl [] _) (Ok.nil _ _)
  have f5 := fz
  refine bx (cs := ([.slice ao5 t4.length cap5, .bool false] : List Value)) ha rfl rfl rfl rfl rfl fun a w6 g7 hN8 ha => ?_
  have o1 : Ok [] (M) w4.heap.size := Ok.nil _ _
  have o2 : Ok ([g7] ++ (M)) (M) w4.heap.size := (Ok.app (hN8.ok _) (fun _ h => .inl (h)))
  have f5 := f5.chg hN8.chg o1 o2
  have nw : Ok ([g7]) (M) w4.heap.size := (hN8.ok _)
  have p_i9_M : ∀ x ∈ [g7], x ∉ M := fun x hx hy => absurd (hM x (hy)) (Nat.not_lt.2 ((hN8.ge1) x hx))
  have e_i9 : ∀ x ∈ [g7], w.heap.size ≤ x := fun x hx => Nat.le_trans hC.size ((hN8.ge1) x hx)
  have hM : MS ([g7] ++ (M)) w6 := (MS.app hN8.ms (fun x h => hM.chg hN8.chg x (h)))
  have hC := hC.trans hN8.chg (Ok.nil _ _)
  have hBg7 : Box w6 g7 ([.slice ao5 t4.length cap5, .bool false] : List Value) := hN8.box
  refine seg ha 1 [(2, .pointer (some ⟨g7, 0, none⟩))] (by kernel_rfl) fun a ha => ?_
  refine hK3 _ _ ?_; clear hK3 K3
  refine wp_ret ?_
  try simp only [Exit.then, Exit.inBlock]
  obtain rfl := Option.some.inj H
  refine rt1 ha rfl rfl ?_
  exact ⟨g7, ao5, cap5, rfl, f5, hBg7, e_i9, hC, hM⟩
def cursor_rest_next.f (a0 : S_cursor_rest) (a1 : Int) : Option (List Int × S_cursor_rest) := ((if a0.bad = true then some (true : Bool) else (if (decide (a1 < (0 : Int))) = true then some (true : Bool) else some (decide (a1 > (a0.left.length : Int)) : Bool)))).bind fun s5 => (if s5 = true then some ((([] : List Int) : List Int), ((⟨a0.left, true⟩ : S_cursor_rest) : S_cursor_rest)) else (if 0 ≤ (0 : Int) ∧ (0 : Int) ≤ a1 ∧ a1 ≤ (a0.left.length : Int) then (if 0 ≤ a1 ∧ a1 ≤ (a0.left.length : Int) ∧ (a0.left.length : Int) ≤ (a0.left.length : Int) then some ((((a0.left.take (Int.toNat a1)).drop (Int.toNat (0 : Int))) : List Int), ((⟨((a0.left.take (Int.toNat (a0.left.length : Int))).drop (Int.toNat a1)), a0.bad⟩ : S_cursor_rest) : S_cursor_rest)) else none) else none))
set_option maxRecDepth 100000 in
theorem cursor_rest_next.walk (w : World) (M : List Nat) (hM : MS M w) (gp0 : Nat) (a0 : S_cursor_rest) (ao1 : Option Addr) (cap1 : Nat) (f1 : RSl (rInt .u8) 5 w M ao1 cap1 a0.left) (hBgp0 : Box w gp0 ([.slice ao1 a0.left.length cap1, .bool a0.bad] : List Value)) (hg_gp0 : gp0 ∈ M) (a1 : Int) (r : List Int × S_cursor_rest) (H : cursor_rest_next.f a0 a1 = some r) :
    To Try.prog 49 [.pointer (some ⟨gp0, 0, none⟩), .int .i64 a1] w fun v w' => ∃ (ao22 : Option Addr) (cap22 : Nat) (ao23 : Option Addr) (cap23 : Nat), v = .slice ao22 r.1.length cap22 ∧ (RSl (rInt .u8) 5 w' (M) ao22 cap22 r.1) ∧ (RSl (rInt .u8) 5 w' (M) ao23 cap23 r.2.left) ∧ (Box w' gp0 ([.slice ao23 r.2.left.length cap23, .bool r.2.bad] : List Value)) ∧ Chg [gp0] w w' ∧ MS (M) w' := by
  unfold cursor_rest_next.f at H
  refine ent Try.func49 rfl [(0, .pointer (some ⟨gp0, 0, none⟩)), (1, .int .i64 a1)] rfl (by rfl) fun a ha => ?_
  have hC : Chg [gp0] w w := Chg.refl _ _
  refine wp_seq_k fun K2 hK2 => ?_
  refine wp_region_lit ?_
  refine seg ha 1 [(0, .pointer (some ⟨gp0, 0, none⟩)), (1, .int .i64 a1)] (by kernel_rfl) fun a ha => ?_
  refine hK2 _ _ ?_; clear hK2 K2
  refine wp_seq_k fun K3 hK3 => ?_
  refine wp_seq_k fun K4 hK4 => ?_
  refine wp_region_lit ?_
  obtain ⟨s5, H5, H⟩ := bind_some H
  have J5 : ∀ (a : Act) (w5 : World), Has a Try.f49.ntmps [(0, .pointer (some ⟨gp0, 0, none⟩)), (1, .int .i64 a1), (22, .bool s5)] → (RSl (rInt .u8) 5 w5 (M) ao1 cap1 a0.left) → (Box w5 gp0 ([.slice ao1 a0.left.length cap1, .bool a0.bad] : List Value)) → (Chg [gp0] w w5) → (MS (M) w5) → K4 a w5 := by
    intro a w5 ha f1 hBgp0 hC hM
    refine hK4 _ _ ?_; clear hK4 K4
    refine cnd ha rfl (fun hc6 => ?_) (fun hc6 => ?_)
    · have H := ite_t hc6 H
      refine wp_seq_k fun K7 hK7 => ?_
      refine wp_region_lit ?_
      refine seg ha 3 [(25, .pointer (some ⟨gp0, 1, none⟩))] (by kernel_rfl) fun a ha => ?_
      refine st ha rfl rfl rfl (by kernel_rfl) rfl rfl hBgp0 (by simp) fun a w8 ha hb2 hc9 _ => ?_
      have o1 : Ok [gp0] (M) w5.heap.size := Ok.one (.inl (hg_gp0))
      have o2 : Ok (M) (M) w5.heap.size := (fun _ h => .inl (h))
      have f1 := f1.chg hc9 o1 o2
      have hM : MS (M) w8 := (fun x h => hM.chg hc9 x (h))
      have hC := hC.trans hc9 (Ok.one (.inl (by simp)))
      have hBgp0 : Box w8 gp0 ([.slice ao1 a0.left.length cap1, .bool true] : List Value) := hb2
      refine hK7 _ _ ?_; clear hK7 K7
      refine wp_seq_k fun K10 hK10 => ?_
      refine wp_region_lit ?_
      refine seg ha 1 [(4, .slice none 0 0)] (by kernel_rfl) fun a ha => ?_
      refine hK10 _ _ ?_; clear hK10 K10
      refine wp_ret ?_
      try simp only [Exit.then, Exit.inBlock]
      obtain rfl := Option.some.inj H
      refine rt1 ha rfl rfl ?_
      exact ⟨none, 0, ao1, cap1, rfl, (RSl.nil (Nat.zero_le _)), f1, hBgp0, hC, hM⟩
    · have H := ite_f hc6 H
      refine wp_skip ?_
      refine hK3 _ _ ?_; clear hK3 K3
      refine wp_seq_k fun K11 hK11 => ?_
      refine wp_region_lit ?_
      refine seg ha 3 [(0, .pointer (some ⟨gp0, 0, none⟩)), (1, .int .i64 a1), (28, .pointer (some ⟨gp0, 0, none⟩))] (by kernel_rfl) fun a ha => ?_
      refine ld ha rfl (by kernel_rfl) rfl rfl rfl (hBgp0.cell' (o := 0) rfl rfl) fun a ha => ?_
      refine seg ha 1 [(0, .pointer (some ⟨gp0, 0, none⟩)), (1, .int .i64 a1), (29, .slice ao1 a0.left.length cap1), (30, .int .i64 a1)] (by kernel_rfl) fun a ha => ?_
      obtain ⟨⟨hx12, hx12', hx12''⟩, H⟩ := ite_some H
      refine slc (r := (rInt .u8)) (l := (0 : Int)) (h := a1) ha (by kernel_rfl) (by kernel_rfl) rfl rfl rfl rfl rfl rfl f1 hx12 hx12' hx12'' fun a ao13 cap13 f13 ha => ?_
      refine seg ha 1 [(0, .pointer (some ⟨gp0, 0, none⟩)), (1, .int .i64 a1), (5, .slice ao13 ((a0.left.take (Int.toNat a1)).drop (Int.toNat (0 : Int))).length cap13)] (by kernel_rfl) fun a ha => ?_
      refine hK11 _ _ ?_; clear hK11 K11
      refine wp_seq_k fun K14 hK14 => ?_
      refine wp_region_lit ?_
      refine seg ha 4 [(1, .int .i64 a1), (5, .slice ao13 ((a0.left.take (Int.toNat a1)).drop (Int.toNat (0 : Int))).length cap13), (32, .pointer (some ⟨gp0, 0, none⟩)), (35, .pointer (some ⟨gp0, 0, none⟩))] (by kernel_rfl) fun a ha => ?_
      refine ld ha rfl (by kernel_rfl) rfl rfl rfl (hBgp0.cell' (o := 0) rfl rfl) fun a ha => ?_
      refine seg ha 1 [(5, .slice ao13 ((a0.left.take (Int.toNat a1)).drop (Int.toNat (0 : Int))).length cap13), (32, .pointer (some ⟨gp0, 0, none⟩)), (36, .slice ao1 a0.left.length cap1), (37, .int .i64 a1)] (by kernel_rfl) fun a ha => ?_
      obtain ⟨⟨hx15, hx15', hx15''⟩, H⟩ := ite_some H
      refine slc (r := (rInt .u8)) (l := a1) (h := (a0.left.length : Int)) ha (by kernel_rfl) (by kernel_rfl) rfl rfl rfl rfl rfl rfl f1 hx15 hx15' hx15'' fun a ao16 cap16 f16 ha => ?_
      refine seg ha 2 [(5, .slice ao13 ((a0.left.take (Int.toNat a1)).drop (Int.toNat (0 : Int))).length cap13), (38, .slice ao16 ((a0.left.take (Int.toNat (a0.left.length : Int))).drop (Int.toNat a1)).length cap16), (40, .pointer (some ⟨gp0, 0, none⟩))] (by kernel_rfl) fun a ha => ?_
      refine st ha rfl rfl rfl (by kernel_rfl) rfl rfl hBgp0 (by simp) fun a w17 ha hb2 hc18 _ => ?_
      have o1 : Ok [gp0] (M) w5.heap.size := Ok.one (.inl (hg_gp0))
      have o2 : Ok (M) (M) w5.heap.size := (fun _ h => .inl (h))
      have f13 := f13.chg hc18 o1 o2
      have f16 := f16.chg hc18 o1 o2
      have f1 := f1.chg hc18 o1 o2
      have hM : MS (M) w17 := (fun x h => hM.chg hc18 x (h))
      have hC := hC.trans hc18 (Ok.one (.inl (by simp)))
      have hBgp0 : Box w17 gp0 ([.slice ao16 ((a0.left.take (Int.toNat (a0.left.length : Int))).drop (Int.toNat a1)).length cap16, .bool a0.bad] : List Value) := hb2
      refine hK14 _ _ ?_; clear hK14 K14
      refine wp_seq_k fun K19 hK19 => ?_
      refine wp_region_lit ?_
      refine seg ha 2 [(4, .slice ao13 ((a0.left.take (Int.toNat a1)).drop (Int.toNat (0 : Int))).length cap13)] (by kernel_rfl) fun a ha => ?_
      refine hK19 _ _ ?_; clear hK19 K19
      refine wp_ret ?_
      try simp only [Exit.then, Exit.inBlock]
      obtain rfl := Option.some.inj H
      refine rt1 ha rfl rfl ?_
      exact ⟨ao13, cap13, ao16, cap16, rfl, f13, f16, hBgp0, hC, hM⟩
  have H := H5
  refine seg ha 3 [(0, .pointer (some ⟨gp0, 0, none⟩)), (1, .int .i64 a1), (8, .pointer (some ⟨gp0, 1, none⟩))] (by kernel_rfl) fun a ha => ?_
  refine ld ha rfl (by kernel_rfl) rfl rfl rfl (hBgp0.cell' (o := 1) rfl rfl) fun a ha => ?_
  refine seg ha 1 [(10, .bool a0.bad), (0, .pointer (some ⟨gp0, 0, none⟩)), (1, .int .i64 a1)] (by kernel_rfl) fun a ha => ?_
  rcases Bool.eq_false_or_eq_true (a0.bad) with hb20 | hb20
  · have ha := ha.lit hb20
    have H := ite_t hb20 H
    refine sgh ha 12 [1, 1, 3, 0, 1, 1, 1, 1, 1, 1, 1, 3] [(0, .pointer (some ⟨gp0, 0, none⟩)), (1, .int .i64 a1), (22, .bool true)] (by kernel_rfl) fun a ha => ?_
    obtain rfl := Option.some.inj H
    exact J5 _ _ (ha.sel (by kernel_rfl)) f1 hBgp0 hC hM
  · have ha := ha.lit hb20
    have H := ite_f hb20 H
    refine sgh ha 4 [2, 2, 4, 0] [(14, .bool (decide (a1 < (0 : Int)))), (0, .pointer (some ⟨gp0, 0, none⟩)), (1, .int .i64 a1)] (by kernel_rfl) fun a ha => ?_
    rcases Bool.eq_false_or_eq_true (decide (a1 < (0 : Int))) with hb21 | hb21
    · have ha := ha.lit hb21
      have H := ite_t hb21 H
      refine sgh ha 8 [1, 1, 1, 1, 1, 1, 1, 3] [(0, .pointer (some ⟨gp0, 0, none⟩)), (1, .int .i64 a1), (22, .bool true)] (by kernel_rfl) fun a ha => ?_
      obtain rfl := Option.some.inj H
      exact J5 _ _ (ha.sel (by kernel_rfl)) f1 hBgp0 hC hM
    · have ha := ha.lit hb21
      have H := ite_f hb21 H
      refine sgh ha 4 [2, 2, 2, 2] [(0, .pointer (some ⟨gp0, 0, none⟩)), (1, .int .i64 a1), (14, .bool false), (15, .int .i64 a1), (18, .pointer (some ⟨gp0, 0, none⟩))] (by kernel_rfl) fun a ha => ?_
      refine ld ha rfl (by kernel_rfl) rfl rfl rfl (hBgp0.cell' (o := 0) rfl rfl) fun a ha => ?_
      refine sgh ha 3 [2, 2, 4] [(0, .pointer (some ⟨gp0, 0, none⟩)), (1, .int .i64 a1), (22, .bool (decide (a1 > (a0.left.length : Int))))] (by kernel_rfl) fun a ha => ?_
      obtain rfl := Option.some.inj H
      exact J5 _ _ (ha.sel (by kernel_rfl)) f1 hBgp0 hC hM
def cursor_Reader_Num.l0 (t8 : List Int × S_cursor_rest) : Nat → Int → Int → Option (Int)
  | 0, _, _ => none
  | kk + 1, x12, x13 => (if (decide (x13 < (t8.1.length : Int))) = true then (if 0 ≤ x13 ∧ x13 < (t8.1.length : Int) then cursor_Reader_Num.l0 t8 kk (IntKind.i64.wrap (BitVec.ofInt IntKind.i64.bits (IntKind.i64.wrap (x12 * 2 ^ (min (8 : Int).toNat IntKind.i64.bits))) ||| BitVec.ofInt IntKind.i64.bits (IntKind.i64.wrap (rd t8.1 x13))).toNat) (IntKind.i64.wrap (x13 + (1 : Int))) else none) else some (x12 : Int))
def cursor_Reader_Num.f (k : Nat) (a0 : S_cursor_Reader) (a1 : Int) : Option (Int × S_cursor_Reader) := ((if (if (decide (a1 < (1 : Int))) = true then true else (decide (a1 > (4 : Int)))) = true then some ((-1 : Int) : Int) else some (a1 : Int))).bind fun s4 => (cursor_rest_next.f a0.rest s4).bind fun t8 => (cursor_Reader_Num.l0 t8 k (0 : Int) (0 : Int)).bind fun s11 => some ((s11 : Int), ((⟨t8.2⟩ : S_cursor_Reader) : S_cursor_Reader))
set_option maxRecDepth 100000 in
theorem cursor_Reader_Num.walk (w : World) (M : List Nat) (hM : MS M w) (gp0 : Nat) (a0 : S_cursor_Reader) (ao1 : Option Addr) (cap1 : Nat) (f1 : RSl (rInt .u8) 5 w M ao1 cap1 a0.rest.left) (hBgp0 : Box w gp0 ([.slice ao1 a0.rest.left.length cap1, .bool a0.rest.bad] : List Value)) (hg_gp0 : gp0 ∈ M) (a1 : Int) (k : Nat) (r : Int × S_cursor_Reader) (H : cursor_Reader_Num.f k a0 a1 = some r) :
    To Try.prog 23 [.pointer (some ⟨gp0, 0, none⟩), .int .i64 a1] w fun v w' => ∃ (ao29 : Option Addr) (cap29 : Nat), v = .int .i64 r.1 ∧ (RSl (rInt .u8) 5 w' (M) ao29 cap29 r.2.rest.left) ∧ (Box w' gp0 ([.slice ao29 r.2.rest.left.length cap29, .bool r.2.rest.bad] : List Value)) ∧ Chg [gp0] w w' ∧ MS (M) w' := by
  unfold cursor_Reader_Num.f at H
  refine ent Try.func23 rfl [(0, .pointer (some ⟨gp0, 0, none⟩)), (1, .int .i64 a1)] rfl (by rfl) fun a ha => ?_
  have hC : Chg [gp0] w w := Chg.refl _ _
  refine wp_seq_k fun K2 hK2 => ?_
  refine wp_region_lit ?_
  refine seg ha 1 [(0, .pointer (some ⟨gp0, 0, none⟩)), (1, .int .i64 a1)] (by kernel_rfl) fun a ha => ?_
  refine hK2 _ _ ?_; clear hK2 K2
  refine wp_seq_k fun K3 hK3 => ?_
  obtain ⟨s4, H4, H⟩ := bind_some H
  have J4 : ∀ (a : Act) (w4 : World), Has a Try.f23.ntmps [(0, .pointer (some ⟨gp0, 0, none⟩)), (1, .int .i64 s4)] → (RSl (rInt .u8) 5 w4 (M) ao1 cap1 a0.rest.left) → (Box w4 gp0 ([.slice ao1 a0.rest.left.length cap1, .bool a0.rest.bad] : List Value)) → (Chg [gp0] w w4) → (MS (M) w4) → K3 a w4 := by
    intro a w4 ha f1 hBgp0 hC hM
    refine hK3 _ _ ?_; clear hK3 K3
    refine wp_seq_k fun K5 hK5 => ?_
    refine wp_region_lit ?_
    refine seg ha 1 [(0, .pointer (some ⟨gp0, 0, none⟩)), (1, .int .i64 s4), (5, .int .i64 (0 : Int))] (by kernel_rfl) fun a ha => ?_
    refine hK5 _ _ ?_; clear hK5 K5
    refine wp_seq_k fun K6 hK6 => ?_
    refine wp_seq_k fun K7 hK7 => ?_
    refine wp_region_lit ?_
    refine seg ha 4 [(5, .int .i64 (0 : Int)), (16, .pointer (some ⟨gp0, 0, none⟩)), (17, .int .i64 s4)] (by kernel_rfl) fun a ha => ?_
    obtain ⟨t8, H8, H⟩ := bind_some H
    refine cl ha (by rfl) (by kernel_rfl) (by rfl) (by rfl) (by rfl) (cursor_rest_next.walk w4 _ hM gp0 a0.rest ao1 cap1 f1 hBgp0 (hg_gp0) s4 _ H8) ?_
    rintro _ w8 ⟨ao9, cap9, ao10, cap10, rfl, f9, f10, qhBgp0, hc8, hMn⟩ a ha
    have o1 : Ok [gp0] (M) w4.heap.size := Ok.one (.inl (hg_gp0))
    have o2 : Ok (M) (M) w4.heap.size := (fun _ h => .inl (h))
    have f1 := f1.chg hc8 o1 o2
    have hM : MS (M) w8 := (fun x h => hM.chg hc8 x (h))
    have hC := hC.trans hc8 (Ok.one (.inl (by simp)))
    have hBgp0 := qhBgp0
    refine seg ha 2 [(5, .int .i64 (0 : Int)), (18, .slice ao9 t8.1.length cap9), (19, .int .i64 (t8.1.length : Int)), (20, .int .i64 (0 : Int))] (by kernel_rfl) fun a ha => ?_
    refine hK7 _ _ ?_; clear hK7 K7
    refine wp_block ?_
    obtain ⟨s11, H11, H⟩ := bind_some H
    have J11 : ∀ (a : Act) (wx11 : World), Has a Try.f23.ntmps [(5, .int .i64 s11)] → (RSl (rInt .u8) 5 wx11 (M) ao10 cap10 t8.2.left) → (Box wx11 gp0 ([.slice ao10 t8.2.left.length cap10, .bool t8.2.bad] : List Value)) → (Chg [gp0] w wx11) → (MS (M) wx11) → K6 a wx11 := by
      intro a wx11 ha f10 hBgp0 hC hM
      refine hK6 _ _ ?_; clear hK6 K6
      refine wp_seq_k fun K14 hK14 => ?_
      refine wp_region_lit ?_
      refine seg ha 2 [(4, .int .i64 s11)] (by kernel_rfl) fun a ha => ?_
      refine hK14 _ _ ?_; clear hK14 K14
      refine wp_ret ?_
      try simp only [Exit.then, Exit.inBlock]
      obtain rfl := Option.some.inj H
      refine rt1 ha rfl rfl ?_
      exact ⟨ao10, cap10, rfl, f10, hBgp0, hC, hM⟩
    have Hc11 := H
    have H := H11
    refine wp_loop_ghost (fun kk a w11 => ∃ (x12 : Int) (x13 : Int), cursor_Reader_Num.l0 t8 kk x12 x13 = some s11 ∧ Has a Try.f23.ntmps [(5, .int .i64 x12), (18, .slice ao9 t8.1.length cap9), (19, .int .i64 (t8.1.length : Int)), (20, .int .i64 x13)] ∧ (RSl (rInt .u8) 5 w11 (M) ao9 cap9 t8.1) ∧ (RSl (rInt .u8) 5 w11 (M) ao10 cap10 t8.2.left) ∧ (Box w11 gp0 ([.slice ao10 t8.2.left.length cap10, .bool t8.2.bad] : List Value)) ∧ (Chg [gp0] w w11) ∧ (MS (M) w11)) k ?_ ?_
    · skip
      exact ⟨(0 : Int), (0 : Int), H, (ha.sel (by kernel_rfl)), f9, f10, hBgp0, hC, hM⟩
    · rintro kk a w11 ⟨x12, x13, H, ha, f9, f10, hBgp0, hC, hM⟩
      obtain _ | kk := kk
      · exact nomatch (show none = some _ from H)
      rw [cursor_Reader_Num.l0] at H
      refine wp_seq_k fun K15 hK15 => ?_
      refine wp_region_lit ?_
      refine seg ha 1 [(5, .int .i64 x12), (18, .slice ao9 t8.1.length cap9), (19, .int .i64 (t8.1.length : Int)), (20, .int .i64 x13), (21, .bool (decide (x13 < (t8.1.length : Int))))] (by kernel_rfl) fun a ha => ?_
      refine hK15 _ _ ?_; clear hK15 K15
      refine wp_seq_k fun K16 hK16 => ?_
      refine cnd ha rfl (fun hc17 => ?_) (fun hc17 => ?_)
      · have H := ite_t hc17 H
        refine wp_skip ?_
        refine hK16 _ _ ?_; clear hK16 K16
        refine wp_seq_k fun K18 hK18 => ?_
        refine wp_block ?_
        refine wp_seq_k fun K19 hK19 => ?_
        refine wp_region_lit ?_
        obtain ⟨⟨hx20, hx20'⟩, H⟩ := ite_some H
        refine ix (r := (rInt .u8)) ha (by kernel_rfl) (by kernel_rfl) rfl rfl rfl rfl rfl f9 hx20 hx20' fun a ge21 oe22 cs23 hn26 hR24 hE25 ha => ?_
        rw [rd_get] at hR24
        obtain rfl := hR24
        have hE25 : ∀ j v, ([.int .u8 (rd t8.1 x13)] : List Value)[j]? = some v → w11.cell? ⟨ge21, oe22 + j, none⟩ = some v := hE25
        refine ld ha rfl (by kernel_rfl) rfl rfl rfl (hE25 0 _ rfl) fun a ha => ?_
        refine seg ha 1 [(5, .int .i64 x12), (7, .int .u8 (rd t8.1 x13)), (18, .slice ao9 t8.1.length cap9), (19, .int .i64 (t8.1.length : Int)), (20, .int .i64 x13)] (by kernel_rfl) fun a ha => ?_
        refine hK19 _ _ ?_; clear hK19 K19
        refine wp_region_lit ?_
        refine seg ha 6 [(5, .int .i64 (IntKind.i64.wrap (BitVec.ofInt IntKind.i64.bits (IntKind.i64.wrap (x12 * 2 ^ (min (8 : Int).toNat IntKind.i64.bits))) ||| BitVec.ofInt IntKind.i64.bits (IntKind.i64.wrap (rd t8.1 x13))).toNat)), (18, .slice ao9 t8.1.length cap9), (19, .int .i64 (t8.1.length : Int)), (20, .int .i64 x13)] (by kernel_rfl) fun a ha => ?_
        refine hK18 _ _ ?_; clear hK18 K18
        refine wp_region_lit ?_
        refine seg ha 2 [(5, .int .i64 (IntKind.i64.wrap (BitVec.ofInt IntKind.i64.bits (IntKind.i64.wrap (x12 * 2 ^ (min (8 : Int).toNat IntKind.i64.bits))) ||| BitVec.ofInt IntKind.i64.bits (IntKind.i64.wrap (rd t8.1 x13))).toNat)), (18, .slice ao9 t8.1.length cap9), (19, .int .i64 (t8.1.length : Int)), (20, .int .i64 (IntKind.i64.wrap (x13 + (1 : Int))))] (by kernel_rfl) fun a ha => ?_
        exact ⟨kk, Nat.lt_succ_self _, ⟨IntKind.i64.wrap (BitVec.ofInt IntKind.i64.bits (IntKind.i64.wrap (x12 * 2 ^ (min (8 : Int).toNat IntKind.i64.bits))) ||| BitVec.ofInt IntKind.i64.bits (IntKind.i64.wrap (rd t8.1 x13))).toNat, IntKind.i64.wrap (x13 + (1 : Int)), H, (ha.sel (by kernel_rfl)), f9, f10, hBgp0, hC, hM⟩⟩
      · have H := ite_f hc17 H
        refine wp_exit ?_
        simp only [Exit.then, Exit.inBlock, ↓reduceIte, Nat.reduceEqDiff]
        obtain rfl := Option.some.inj H
        exact J11 _ _ (ha.sel (by kernel_rfl)) f10 hBgp0 hC hM
  have H := H4
  refine wp_seq_k fun K27 hK27 => ?_
  refine wp_region_lit ?_
  refine seg ha 6 [(0, .pointer (some ⟨gp0, 0, none⟩)), (1, .int .i64 a1), (13, .bool (if (decide (a1 < (1 : Int))) = true then true else (decide (a1 > (4 : Int)))))] (by kernel_rfl) fun a ha => ?_
  refine hK27 _ _ ?_; clear hK27 K27
  refine cnd ha rfl (fun hc28 => ?_) (fun hc28 => ?_)
  · have H := ite_t hc28 H
    refine wp_region_lit ?_
    refine seg ha 1 [(0, .pointer (some ⟨gp0, 0, none⟩)), (1, .int .i64 (-1 : Int))] (by kernel_rfl) fun a ha => ?_
    obtain rfl := Option.some.inj H
    exact J4 _ _ (ha.sel (by kernel_rfl)) f1 hBgp0 hC hM
  · have H := ite_f hc28 H
    refine wp_skip ?_
    obtain rfl := Option.some.inj H
    exact J4 _ _ (ha.sel (by kernel_rfl)) f1 hBgp0 hC hM
def cursor_rest_Left.f (a0 : S_cursor_rest) : Option (Int) := (if a0.bad = true then some (((0 : Int) : Int)) else some (((a0.left.length : Int) : Int)))
set_option maxRecDepth 100000 in
theorem cursor_rest_Left.walk (w : World) (M : List Nat) (hM : MS M w) (gp0 : Nat) (a0 : S_cursor_rest) (ao1 : Option Addr) (cap1 : Nat) (f1 : RSl (rInt .u8) 5 w M ao1 cap1 a0.left) (hBgp0 : Box w gp0 ([.slice ao1 a0.left.length cap1, .bool a0.bad] : List Value)) (hg_gp0 : gp0 ∈ M) (r : Int) (H : cursor_rest_Left.f a0 = some r) :
    To Try.prog 24 [.pointer (some ⟨gp0, 0, none⟩)] w fun v w' => v = .int .i64 r ∧ Chg [] w w' ∧ MS (M) w' := by
  unfold cursor_rest_Left.f at H
  refine ent Try.func24 rfl [(0, .pointer (some ⟨gp0, 0, none⟩))] rfl (by rfl) fun a ha => ?_
  have hC : Chg [] w w := Chg.refl _ _
  refine wp_seq_k fun K2 hK2 => ?_
  refine wp_region_lit ?_
  refine seg ha 1 [(0, .pointer (some ⟨gp0, 0, none⟩))] (by kernel_rfl) fun a ha => ?_
  refine hK2 _ _ ?_; clear hK2 K2
  refine wp_seq_k fun K3 hK3 => ?_
  refine wp_seq_k fun K4 hK4 => ?_
  refine wp_region_lit ?_
  refine seg ha 3 [(0, .pointer (some ⟨gp0, 0, none⟩)), (5, .pointer (some ⟨gp0, 1, none⟩))] (by kernel_rfl) fun a ha => ?_
  refine ld ha rfl (by kernel_rfl) rfl rfl rfl (hBgp0.cell' (o := 1) rfl rfl) fun a ha => ?_
  refine hK4 _ _ ?_; clear hK4 K4
  refine cnd ha rfl (fun hc5 => ?_) (fun hc5 => ?_)
  · have H := ite_t hc5 H
    refine wp_seq_k fun K6 hK6 => ?_
    refine wp_region_lit ?_
    refine seg ha 1 [(2, .int .i64 (0 : Int))] (by kernel_rfl) fun a ha => ?_
    refine hK6 _ _ ?_; clear hK6 K6
    refine wp_ret ?_
    try simp only [Exit.then, Exit.inBlock]
    obtain rfl := Option.some.inj H
    refine rt1 ha rfl rfl ?_
    exact ⟨rfl, hC, hM⟩
  · have H := ite_f hc5 H
    refine wp_skip ?_
    refine hK3 _ _ ?_; clear hK3 K3
    refine wp_seq_k fun K7 hK7 => ?_
    refine wp_region_lit ?_
    refine seg ha 3 [(9, .pointer (some ⟨gp0, 0, none⟩))] (by kernel_rfl) fun a ha => ?_
    refine ld ha rfl (by kernel_rfl) rfl rfl rfl (hBgp0.cell' (o := 0) rfl rfl) fun a ha => ?_
    refine seg ha 2 [(2, .int .i64 (a0.left.length : Int))] (by kernel_rfl) fun a ha => ?_
    refine hK7 _ _ ?_; clear hK7 K7
    refine wp_ret ?_
    try simp only [Exit.then, Exit.inBlock]
    obtain rfl := Option.some.inj H
    refine rt1 ha rfl rfl ?_
    exact ⟨rfl, hC, hM⟩
def cursor_Put.l0 (a1 : Int) : Nat → (List Int) → Int → Option (List Int)
  | 0, _, _ => none
  | kk + 1, x20, x21 => (if (decide (x21 ≥ (0 : Int))) = true then (if 0 ≤ x21 then (if (x20.length + ([IntKind.u8.wrap (Int.fdiv a1 (2 ^ (min (Int.toNat x21) IntKind.i64.bits)))] : List Int).length) * 1 ≤ 140737488355328 then cursor_Put.l0 a1 kk (x20 ++ ([IntKind.u8.wrap (Int.fdiv a1 (2 ^ (min (Int.toNat x21) IntKind.i64.bits)))] : List Int)) (IntKind.i64.wrap (x21 - (8 : Int))) else none) else none) else some (x20 : List Int))
def cursor_Put.f (k : Nat) (a0 : List Int) (a1 : Int) (a2 : Int) : Option (List Int × Int) := (if (if (decide (a2 < (1 : Int))) = true then true else (decide (a2 > (4 : Int)))) = true then some ((([] : List Int) : List Int), ((1 : Int) : Int)) else ((if (decide (a1 < (0 : Int))) = true then some (true : Bool) else (if 0 ≤ (IntKind.i64.wrap ((8 : Int) * a2)) then some ((Int.fdiv a1 (2 ^ (min (Int.toNat (IntKind.i64.wrap ((8 : Int) * a2))) IntKind.i64.bits))) != (0 : Int) : Bool) else none))).bind fun s9 => (if s9 = true then some ((([] : List Int) : List Int), ((5 : Int) : Int)) else (bytes_Clone.f a0).bind fun t14 => (cursor_Put.l0 a1 k t14 (IntKind.i64.wrap ((8 : Int) * (IntKind.i64.wrap (a2 - (1 : Int)))))).bind fun s18 => some ((s18 : List Int), ((0 : Int) : Int))))
set_option maxRecDepth 100000 in
theorem cursor_Put.walk (w : World) (M : List Nat) (hM : MS M w) (a0 : List Int) (ao1 : Option Addr) (cap1 : Nat) (f1 : RSl (rInt .u8) 5 w M ao1 cap1 a0) (a1 : Int) (a2 : Int) (k : Nat) (r : List Int × Int) (H : cursor_Put.f k a0 a1 a2 = some r) :
    To Try.prog 15 [.slice ao1 a0.length cap1, .int .i64 a1, .int .i64 a2] w fun v w' => ∃ (ao39 : Option Addr) (cap39 : Nat), v = .tuple #[.slice ao39 r.1.length cap39, .int .i64 r.2] ∧ (Own (rInt .u8) 5 w' (blkL ao39 ++ (M)) ao39 cap39 r.1) ∧ (∀ x ∈ blkL ao39, w.heap.size ≤ x) ∧ Chg [] w w' ∧ MS (blkL ao39 ++ (M)) w' := by
  unfold cursor_Put.f at H
  refine ent Try.func15 rfl [(0, .slice ao1 a0.length cap1), (1, .int .i64 a1), (2, .int .i64 a2)] rfl (by rfl) fun a ha => ?_
  have hC : Chg [] w w := Chg.refl _ _
  refine wp_seq_k fun K2 hK2 => ?_
  refine wp_region_lit ?_
  refine seg ha 2 [(0, .slice ao1 a0.length cap1), (1, .int .i64 a1), (2, .int .i64 a2)] (by kernel_rfl) fun a ha => ?_
  refine hK2 _ _ ?_; clear hK2 K2
  refine wp_seq_k fun K3 hK3 => ?_
  refine wp_block ?_
  refine wp_seq_k fun K4 hK4 => ?_
  refine wp_region_lit ?_
  refine seg ha 7 [(0, .slice ao1 a0.length cap1), (1, .int .i64 a1), (2, .int .i64 a2), (10, .bool (if (decide (a2 < (1 : Int))) = true then true else (decide (a2 > (4 : Int)))))] (by kernel_rfl) fun a ha => ?_
  refine hK4 _ _ ?_; clear hK4 K4
  refine cnd ha rfl (fun hc5 => ?_) (fun hc5 => ?_)
  · have H := ite_t hc5 H
    refine wp_seq_k fun K6 hK6 => ?_
    refine wp_region_lit ?_
    refine seg ha 2 [(6, .slice none 0 0), (7, .int .i64 (1 : Int))] (by kernel_rfl) fun a ha => ?_
    refine hK6 _ _ ?_; clear hK6 K6
    refine wp_ret ?_
    try simp only [Exit.then, Exit.inBlock]
    have o1 : Ok [] (M) w.heap.size := Ok.nil _ _
    have o2 : Ok (blkL none ++ (M)) (M) w.heap.size := (Ok.app (fun _ h => nomatch h) (fun _ h => .inl (h)))
    have nw : Ok (blkL none) (M) w.heap.size := (fun _ h => nomatch h)
    have p_z7_M : ∀ x ∈ blkL none, x ∉ M := fun x hx hy => absurd (hM x (hy)) (Nat.not_lt.2 ((fun _ h => nomatch h) x hx))
    have e_z7 : ∀ x ∈ blkL none, w.heap.size ≤ x := fun x hx => Nat.le_trans hC.size ((fun _ h => nomatch h) x hx)
    have hM : MS (blkL none ++ (M)) w := (MS.app (fun _ h => nomatch h) (fun x h => hM.chg (Chg.refl [] _) x (h)))
    have hC := hC.trans (Chg.refl [] _) (Ok.nil _ _)
    obtain rfl := Option.some.inj H
    refine rt2 ha rfl rfl rfl ?_
    exact ⟨none, 0, rfl, Own.nil, e_z7, hC, hM⟩
  · have H := ite_f hc5 H
    refine wp_seq_k fun K8 hK8 => ?_
    refine wp_region_lit ?_
    obtain ⟨s9, H9, H⟩ := bind_some H
    have J9 : ∀ (a : Act) (w9 : World), Has a Try.f15.ntmps [(0, .slice ao1 a0.length cap1), (1, .int .i64 a1), (2, .int .i64 a2), (17, .bool s9)] → (RSl (rInt .u8) 5 w9 (M) ao1 cap1 a0) → (Chg [] w w9) → (MS (M) w9) → K8 a w9 := by
      intro a w9 ha f1 hC hM
      refine hK8 _ _ ?_; clear hK8 K8
      refine cnd ha rfl (fun hc10 => ?_) (fun hc10 => ?_)
      · have H := ite_t hc10 H
        refine wp_seq_k fun K11 hK11 => ?_
        refine wp_region_lit ?_
        refine seg ha 2 [(6, .slice none 0 0), (7, .int .i64 (5 : Int))] (by kernel_rfl) fun a ha => ?_
        refine hK11 _ _ ?_; clear hK11 K11
        refine wp_ret ?_
        try simp only [Exit.then, Exit.inBlock]
        have o1 : Ok [] (M) w9.heap.size := Ok.nil _ _
        have o2 : Ok (blkL none ++ (M)) (M) w9.heap.size := (Ok.app (fun _ h => nomatch h) (fun _ h => .inl (h)))
        have nw : Ok (blkL none) (M) w9.heap.size := (fun _ h => nomatch h)
        have p_z12_M : ∀ x ∈ blkL none, x ∉ M := fun x hx hy => absurd (hM x (hy)) (Nat.not_lt.2 ((fun _ h => nomatch h) x hx))
        have e_z12 : ∀ x ∈ blkL none, w.heap.size ≤ x := fun x hx => Nat.le_trans hC.size ((fun _ h => nomatch h) x hx)
        have hM : MS (blkL none ++ (M)) w9 := (MS.app (fun _ h => nomatch h) (fun x h => hM.chg (Chg.refl [] _) x (h)))
        have hC := hC.trans (Chg.refl [] _) (Ok.nil _ _)
        obtain rfl := Option.some.inj H
        refine rt2 ha rfl rfl rfl ?_
        exact ⟨none, 0, rfl, Own.nil, e_z12, hC, hM⟩
      · have H := ite_f hc10 H
        refine wp_skip ?_
        refine hK3 _ _ ?_; clear hK3 K3
        refine wp_seq_k fun K13 hK13 => ?_
        refine wp_region_lit ?_
        refine seg ha 1 [(1, .int .i64 a1), (2, .int .i64 a2), (27, .slice ao1 a0.length cap1)] (by kernel_rfl) fun a ha => ?_
        obtain ⟨t14, H14, H⟩ := bind_some H
        refine cl ha (by rfl) (by kernel_rfl) (by rfl) (by rfl) (by rfl) (bytes_Clone.walk w9 _ hM a0 ao1 cap1 f1 _ H14) ?_
        rintro _ w14 ⟨ao15, cap15, rfl, f15, ne_i15, hc14, hMn⟩ a ha
        have o1 : Ok [] (M) w9.heap.size := Ok.nil _ _
        have o2 : Ok (blkL ao15 ++ (M)) (M) w9.heap.size := (Ok.app (fun x h => .inr (ne_i15 x h)) (fun _ h => .inl (h)))
        have f1 := f1.chg hc14 o1 o2
        have nw : Ok (blkL ao15) (M) w9.heap.size := (fun x h => .inr (ne_i15 x h))
        have p_i15_M : ∀ x ∈ blkL ao15, x ∉ M := fun x hx hy => absurd (hM x (hy)) (Nat.not_lt.2 (ne_i15 x hx))
        have e_i15 : ∀ x ∈ blkL ao15, w.heap.size ≤ x := fun x hx => Nat.le_trans hC.size (ne_i15 x hx)
        have hM : MS (blkL ao15 ++ (M)) w14 := (MS.app (fun x h => hMn x (ml h)) (fun x h => hM.chg hc14 x (h)))
        have hC := hC.trans hc14 (Ok.nil _ _)
        refine seg ha 1 [(1, .int .i64 a1), (2, .int .i64 a2), (8, .slice ao15 t14.length cap15)] (by kernel_rfl) fun a ha => ?_
        refine hK13 _ _ ?_; clear hK13 K13
        refine wp_seq_k fun K16 hK16 => ?_
        refine wp_seq_k fun K17 hK17 => ?_
        refine wp_region_lit ?_
        refine seg ha 4 [(1, .int .i64 a1), (8, .slice ao15 t14.length cap15), (9, .int .i64 (IntKind.i64.wrap ((8 : Int) * (IntKind.i64.wrap (a2 - (1 : Int))))))] (by kernel_rfl) fun a ha => ?_
        refine hK17 _ _ ?_; clear hK17 K17
        refine wp_block ?_
        obtain ⟨s18, H18, H⟩ := bind_some H
        have J18 : ∀ (a : Act) (wx18 : World) (ao22 : Option Addr) (cap22 : Nat), Has a Try.f15.ntmps [(8, .slice ao22 s18.length cap22)] → (Own (rInt .u8) 5 wx18 (blkL ao22 ++ (M)) ao22 cap22 s18) → (∀ x ∈ blkL ao22, w.heap.size ≤ x) → (∀ x ∈ blkL ao22, x ∉ M) → (Chg [] w wx18) → (MS (blkL ao22 ++ (M)) wx18) → K16 a wx18 := by
          intro a wx18 ao22 cap22 ha f22 e_i22 p_i22_M hC hM
          refine hK16 _ _ ?_; clear hK16 K16
          refine wp_seq_k fun K23 hK23 => ?_
          refine wp_region_lit ?_
          refine seg ha 3 [(6, .slice ao22 s18.length cap22), (7, .int .i64 (0 : Int))] (by kernel_rfl) fun a ha => ?_
          refine hK23 _ _ ?_; clear hK23 K23
          refine wp_ret ?_
          try simp only [Exit.then, Exit.inBlock]
          obtain rfl := Option.some.inj H
          refine rt2 ha rfl rfl rfl ?_
          exact ⟨ao22, cap22, rfl, f22, e_i22, hC, hM⟩
        have Hc18 := H
        have H := H18
        refine wp_loop_ghost (fun kk a w18 => ∃ (x20 : List Int) (x21 : Int) (ao19 : Option Addr) (cap19 : Nat), cursor_Put.l0 a1 kk x20 x21 = some s18 ∧ Has a Try.f15.ntmps [(1, .int .i64 a1), (8, .slice ao19 x20.length cap19), (9, .int .i64 x21)] ∧ (Own (rInt .u8) 5 w18 (blkL ao19 ++ (M)) ao19 cap19 x20) ∧ (∀ x ∈ blkL ao19, w.heap.size ≤ x) ∧ (∀ x ∈ blkL ao19, x ∉ M) ∧ (Chg [] w w18) ∧ (MS (blkL ao19 ++ (M)) w18)) k ?_ ?_
        · skip
          exact ⟨t14, IntKind.i64.wrap ((8 : Int) * (IntKind.i64.wrap (a2 - (1 : Int)))), ao15, cap15, H, (ha.sel (by kernel_rfl)), f15, e_i15, p_i15_M, hC, hM⟩
        · rintro kk a w18 ⟨x20, x21, ao19, cap19, H, ha, f19, e_i19, p_i19_M, hC, hM⟩
          obtain _ | kk := kk
          · exact nomatch (show none = some _ from H)
          rw [cursor_Put.l0] at H
          refine wp_seq_k fun K24 hK24 => ?_
          refine wp_seq_k fun K25 hK25 => ?_
          refine wp_region_lit ?_
          refine seg ha 2 [(1, .int .i64 a1), (8, .slice ao19 x20.length cap19), (9, .int .i64 x21), (33, .bool (decide (x21 ≥ (0 : Int))))] (by kernel_rfl) fun a ha => ?_
          refine hK25 _ _ ?_; clear hK25 K25
          refine cnd ha rfl (fun hc26 => ?_) (fun hc26 => ?_)
          · have H := ite_t hc26 H
            refine wp_skip ?_
            refine hK24 _ _ ?_; clear hK24 K24
            refine wp_seq_k fun K27 hK27 => ?_
            refine wp_block ?_
            refine wp_region_lit ?_
            refine seg ha 3 [(1, .int .i64 a1), (9, .int .i64 x21), (36, .slice ao19 x20.length cap19), (37, .int .i64 a1), (38, .int .i64 x21)] (by kernel_rfl) fun a ha => ?_
            obtain ⟨hx28, H⟩ := ite_some H
            refine shr ha rfl rfl rfl rfl rfl hx28 fun a ha => ?_
            refine seg ha 1 [(1, .int .i64 a1), (9, .int .i64 x21), (36, .slice ao19 x20.length cap19), (40, .int .u8 (IntKind.u8.wrap (Int.fdiv a1 (2 ^ (min (Int.toNat x21) IntKind.i64.bits)))))] (by kernel_rfl) fun a ha => ?_
            refine bsl (vals := ([.int .u8 (IntKind.u8.wrap (Int.fdiv a1 (2 ^ (min (Int.toNat x21) IntKind.i64.bits))))] : List Value)) (T := 5) ha rfl ([.int .u8 (IntKind.u8.wrap (Int.fdiv a1 (2 ^ (min (Int.toNat x21) IntKind.i64.bits))))] : List Value) (fun w => by kernel_rfl) rfl rfl rfl fun a w29 g30 hN31 ha => ?_
            have o1 : Ok [] (blkL ao19 ++ (M)) w18.heap.size := Ok.nil _ _
            have o2 : Ok ([g30] ++ (blkL ao19 ++ (M))) (blkL ao19 ++ (M)) w18.heap.size := (Ok.app (hN31.ok _) (Ok.app (fun _ h => .inl (ml h)) (fun _ h => .inl (mr (h)))))
            have f19 := f19.chg hN31.chg o1 o2 (fun _ _ h => nomatch h) (fun _ h => mr (ml h))
            have nw : Ok ([g30]) (blkL ao19 ++ (M)) w18.heap.size := (hN31.ok _)
            have p_i32_i19 : ∀ x ∈ [g30], x ∉ (blkL ao19) := fun x hx hy => absurd (hM x (ml hy)) (Nat.not_lt.2 ((hN31.ge1) x hx))
            have p_i32_M : ∀ x ∈ [g30], x ∉ M := fun x hx hy => absurd (hM x (mr (hy))) (Nat.not_lt.2 ((hN31.ge1) x hx))
            have e_i32 : ∀ x ∈ [g30], w.heap.size ≤ x := fun x hx => Nat.le_trans hC.size ((hN31.ge1) x hx)
            have hM : MS ([g30] ++ (blkL ao19 ++ (M))) w29 := (MS.app hN31.ms (MS.app (fun x h => hM.chg hN31.chg x (ml h)) (fun x h => hM.chg hN31.chg x (mr (h)))))
            have hC := hC.trans hN31.chg (Ok.nil _ _)
            have f33 : Own (rInt .u8) 5 w29 ([g30] ++ (blkL ao19 ++ (M))) (some ⟨g30, 0, none⟩) 1 ([IntKind.u8.wrap (Int.fdiv a1 (2 ^ (min (Int.toNat x21) IntKind.i64.bits)))] : List Int) := hN31.own (⟨[_], _, rfl, rfl, rfl⟩) (by simp [maxLen])
            obtain ⟨hx34, H⟩ := ite_some H
            refine app (r := (rInt .u8)) (xs := x20) (ys := ([IntKind.u8.wrap (Int.fdiv a1 (2 ^ (min (Int.toNat x21) IntKind.i64.bits)))] : List Int)) ha (ElemT.mk' (bytes := 1) (by kernel_rfl)) rfl rfl rfl rfl rfl f19 f33.src hx34 (by decide) fun a w35 ao36 cap36 hO36 hc36 hk36 hl36 ha => ?_
            have o1 : Ok (blkL ao19) ([g30] ++ (blkL ao19 ++ (M))) w29.heap.size := (fun _ h => .inl (mr (ml h)))
            have o2 : Ok (blkL ao36 ++ ([g30] ++ (M))) ([g30] ++ (blkL ao19 ++ (M))) w29.heap.size := (Ok.app (Ok.to hk36 (fun _ h => mr (ml h))) (Ok.app (fun _ h => .inl (ml h)) (fun _ h => .inl (mr (mr (h))))))
            have f33 := f33.chg hc36 o1 o2 p_i32_i19 (fun _ h => mr (ml h))
            have nw : Ok (blkL ao36) ([g30] ++ (blkL ao19 ++ (M))) w29.heap.size := (Ok.to hk36 (fun _ h => mr (ml h)))
            have p_i36_i32 : ∀ x ∈ blkL ao36, x ∉ ([g30]) := fun x hx hy => (hk36 x hx).elim (fun h => (fun x hx hy => p_i32_i19 x hy hx) x h hy) (fun h => absurd (hM x (ml hy)) (Nat.not_lt.2 h))
            have p_i36_M : ∀ x ∈ blkL ao36, x ∉ M := fun x hx hy => (hk36 x hx).elim (fun h => p_i19_M x h hy) (fun h => absurd (hM x (mr (mr (hy)))) (Nat.not_lt.2 h))
            have e_i36 : ∀ x ∈ blkL ao36, w.heap.size ≤ x := fun x hx => (hk36 x hx).elim (e_i19 x) (Nat.le_trans hC.size)
            have hM : MS (blkL ao36 ++ ([g30] ++ (M))) w35 := (MS.app hl36 (MS.app (fun x h => hM.chg hc36 x (ml h)) (fun x h => hM.chg hc36 x (mr (mr (h))))))
            have hC := hC.trans hc36 (fun x h => .inr (e_i19 x h))
            have f36 := hO36.chg (M' := blkL ao36 ++ ([g30] ++ (M))) (Chg.refl [] _) (Ok.nil _ _) (Ok.app (fun _ h => .inl (ml h)) (Ok.to (Ok.app (fun _ h => .inl (ml h)) (fun _ h => .inl (mr (mr (h))))) (fun _ h => mr h))) (fun _ _ h => nomatch h) (fun _ h => ml h)
            refine seg ha 1 [(1, .int .i64 a1), (8, .slice ao36 (x20 ++ ([IntKind.u8.wrap (Int.fdiv a1 (2 ^ (min (Int.toNat x21) IntKind.i64.bits)))] : List Int)).length cap36), (9, .int .i64 x21)] (by kernel_rfl) fun a ha => ?_
            refine hK27 _ _ ?_; clear hK27 K27
            refine wp_region_lit ?_
            refine seg ha 3 [(1, .int .i64 a1), (8, .slice ao36 (x20 ++ ([IntKind.u8.wrap (Int.fdiv a1 (2 ^ (min (Int.toNat x21) IntKind.i64.bits)))] : List Int)).length cap36), (9, .int .i64 (IntKind.i64.wrap (x21 - (8 : Int))))] (by kernel_rfl) fun a ha => ?_
            have o1 : Ok [] (blkL ao36 ++ ([g30] ++ (M))) w35.heap.size := Ok.nil _ _
            have o2 : Ok (blkL ao36 ++ (M)) (blkL ao36 ++ ([g30] ++ (M))) w35.heap.size := (Ok.app (fun _ h => .inl (ml h)) (fun _ h => .inl (mr (mr (h)))))
            have f36 := f36.chg (Chg.refl [] _) o1 o2 (fun _ _ h => nomatch h) (fun _ h => ml h)
            have hM : MS (blkL ao36 ++ (M)) w35 := (MS.app (fun x h => hM.chg (Chg.refl [] _) x (ml h)) (fun x h => hM.chg (Chg.refl [] _) x (mr (mr (h)))))
            have hC := hC.trans (Chg.refl [] _) (Ok.nil _ _)
            exact ⟨kk, Nat.lt_succ_self _, ⟨(x20 ++ ([IntKind.u8.wrap (Int.fdiv a1 (2 ^ (min (Int.toNat x21) IntKind.i64.bits)))] : List Int)), IntKind.i64.wrap (x21 - (8 : Int)), ao36, cap36, H, (ha.sel (by kernel_rfl)), f36, e_i36, p_i36_M, hC, hM⟩⟩
          · have H := ite_f hc26 H
            refine wp_exit ?_
            simp only [Exit.then, Exit.inBlock, ↓reduceIte, Nat.reduceEqDiff]
            obtain rfl := Option.some.inj H
            exact J18 _ _ ao19 cap19 (ha.sel (by kernel_rfl)) f19 e_i19 p_i19_M hC hM
    have H := H9
    refine seg ha 3 [(20, .bool (decide (a1 < (0 : Int)))), (0, .slice ao1 a0.length cap1), (1, .int .i64 a1), (2, .int .i64 a2)] (by kernel_rfl) fun a ha => ?_
    rcases Bool.eq_false_or_eq_true (decide (a1 < (0 : Int))) with hb37 | hb37
    · have ha := ha.lit hb37
      have H := ite_t hb37 H
      refine sgh ha 7 [1, 1, 1, 1, 1, 3, 0] [(0, .slice ao1 a0.length cap1), (1, .int .i64 a1), (2, .int .i64 a2), (17, .bool true)] (by kernel_rfl) fun a ha => ?_
      obtain rfl := Option.some.inj H
      exact J9 _ _ (ha.sel (by kernel_rfl)) f1 hC hM
    · have ha := ha.lit hb37
      have H := ite_f hb37 H
      refine sgh ha 3 [2, 2, 2] [(0, .slice ao1 a0.length cap1), (1, .int .i64 a1), (2, .int .i64 a2), (20, .bool false), (21, .int .i64 a1), (23, .int .i64 (IntKind.i64.wrap ((8 : Int) * a2)))] (by kernel_rfl) fun a ha => ?_
      obtain ⟨hx38, H⟩ := ite_some H
      refine shr ha rfl rfl rfl rfl rfl hx38 fun a ha => ?_
      refine sgh ha 3 [2, 4, 0] [(0, .slice ao1 a0.length cap1), (1, .int .i64 a1), (2, .int .i64 a2), (17, .bool ((Int.fdiv a1 (2 ^ (min (Int.toNat (IntKind.i64.wrap ((8 : Int) * a2))) IntKind.i64.bits))) != (0 : Int)))] (by kernel_rfl) fun a ha => ?_
      obtain rfl := Option.some.inj H
      exact J9 _ _ (ha.sel (by kernel_rfl)) f1 hC hM
def cursor_rest_Bad.f (a0 : S_cursor_rest) : Option (Bool) := some ((a0.bad : Bool))
set_option maxRecDepth 100000 in
theorem cursor_rest_Bad.walk (w : World) (M : List Nat) (hM : MS M w) (gp0 : Nat) (a0 : S_cursor_rest) (ao1 : Option Addr) (cap1 : Nat) (f1 : RSl (rInt .u8) 5 w M ao1 cap1 a0.left) (hBgp0 : Box w gp0 ([.slice ao1 a0.left.length cap1, .bool a0.bad] : List Value)) (hg_gp0 : gp0 ∈ M) (r : Bool) (H : cursor_rest_Bad.f a0 = some r) :
    To Try.prog 25 [.pointer (some ⟨gp0, 0, none⟩)] w fun v w' => v = .bool r ∧ Chg [] w w' ∧ MS (M) w' := by
  unfold cursor_rest_Bad.f at H
  refine ent Try.func25 rfl [(0, .pointer (some ⟨gp0, 0, none⟩))] rfl (by rfl) fun a ha => ?_
  have hC : Chg [] w w := Chg.refl _ _
  refine wp_seq_k fun K2 hK2 => ?_
  refine wp_region_lit ?_
  refine seg ha 1 [(0, .pointer (some ⟨gp0, 0, none⟩))] (by kernel_rfl) fun a ha => ?_
  refine hK2 _ _ ?_; clear hK2 K2
  refine wp_seq_k fun K3 hK3 => ?_
  refine wp_region_lit ?_
  refine seg ha 3 [(5, .pointer (some ⟨gp0, 1, none⟩))] (by kernel_rfl) fun a ha => ?_
  refine ld ha rfl (by kernel_rfl) rfl rfl rfl (hBgp0.cell' (o := 1) rfl rfl) fun a ha => ?_
  refine seg ha 1 [(2, .bool a0.bad)] (by kernel_rfl) fun a ha => ?_
  refine hK3 _ _ ?_; clear hK3 K3
  refine wp_ret ?_
  try simp only [Exit.then, Exit.inBlock]
  obtain rfl := Option.some.inj H
  refine rt1 ha rfl rfl ?_
  exact ⟨rfl, hC, hM⟩
def bytes_Compare.f (a0 : List Int) (a1 : List Int) : Option (Int) := some ((Go.Lib.compareBytes (b2s a0) (b2s a1) : Int))
set_option maxRecDepth 100000 in
theorem bytes_Compare.walk (w : World) (M : List Nat) (hM : MS M w) (a0 : List Int) (ao1 : Option Addr) (cap1 : Nat) (f1 : RSl (rInt .u8) 5 w M ao1 cap1 a0) (a1 : List Int) (ao2 : Option Addr) (cap2 : Nat) (f2 : RSl (rInt .u8) 5 w M ao2 cap2 a1) (r : Int) (H : bytes_Compare.f a0 a1 = some r) :
    To Try.prog 48 [.slice ao1 a0.length cap1, .slice ao2 a1.length cap2] w fun v w' => v = .int .i64 r ∧ Chg [] w w' ∧ MS (M) w' := by
  unfold bytes_Compare.f at H
  refine ent Try.func48 rfl [(0, .slice ao1 a0.length cap1), (1, .slice ao2 a1.length cap2)] rfl (by rfl) fun a ha => ?_
  have hC : Chg [] w w := Chg.refl _ _
  refine wp_seq_k fun K3 hK3 => ?_
  refine wp_region_lit ?_
  refine seg ha 1 [(0, .slice ao1 a0.length cap1), (1, .slice ao2 a1.length cap2)] (by kernel_rfl) fun a ha => ?_
  refine hK3 _ _ ?_; clear hK3 K3
  refine wp_seq_k fun K4 hK4 => ?_
  refine wp_region_lit ?_
  refine seg ha 2 [(5, .slice ao1 a0.length cap1), (6, .slice ao2 a1.length cap2)] (by kernel_rfl) fun a ha => ?_
  refine cx (fn := Try.f52) ha (vals := [.slice ao1 a0.length cap1, .slice ao2 a1.length cap2]) (by rfl) (by rfl) (by rfl) (by rfl) (by rfl) (by rfl) (by rfl) (by rfl) (by rfl) (run_bcmp f1 f2) fun a ha => ?_
  refine seg ha 1 [(4, .int .i64 (Go.Lib.compareBytes (b2s a0) (b2s a1)))] (by kernel_rfl) fun a ha => ?_
  refine hK4 _ _ ?_; clear hK4 K4
  refine wp_ret ?_
  try simp only [Exit.then, Exit.inBlock]
  obtain rfl := Option.some.inj H
  refine rt1 ha rfl rfl ?_
  exact ⟨rfl, hC, hM⟩
def cursor_Order.f (a0 : List Int) (a1 : List Int) : Option (Int) := (bytes_Compare.f a0 a1).bind fun t5 => some ((t5 : Int))
set_option maxRecDepth 100000 in
theorem cursor_Order.walk (w : World) (M : List Nat) (hM : MS M w) (a0 : List Int) (ao1 : Option Addr) (cap1 : Nat) (f1 : RSl (rInt .u8) 5 w M ao1 cap1 a0) (a1 : List Int) (ao2 : Option Addr) (cap2 : Nat) (f2 : RSl (rInt .u8) 5 w M ao2 cap2 a1) (r : Int) (H : cursor_Order.f a0 a1 = some r) :
    To Try.prog 19 [.slice ao1 a0.length cap1, .slice ao2 a1.length cap2] w fun v w' => v = .int .i64 r ∧ Chg [] w w' ∧ MS (M) w' := by
  unfold cursor_Order.f at H
  refine ent Try.func19 rfl [(0, .slice ao1 a0.length cap1), (1, .slice ao2 a1.length cap2)] rfl (by rfl) fun a ha => ?_
  have hC : Chg [] w w := Chg.refl _ _
  refine wp_seq_k fun K3 hK3 => ?_
  refine wp_region_lit ?_
  refine seg ha 1 [(0, .slice ao1 a0.length cap1), (1, .slice ao2 a1.length cap2)] (by kernel_rfl) fun a ha => ?_
  refine hK3 _ _ ?_; clear hK3 K3
  refine wp_seq_k fun K4 hK4 => ?_
  refine wp_region_lit ?_
  refine seg ha 2 [(5, .slice ao1 a0.length cap1), (6, .slice ao2 a1.length cap2)] (by kernel_rfl) fun a ha => ?_
  obtain ⟨t5, H5, H⟩ := bind_some H
  refine cl ha (by rfl) (by kernel_rfl) (by rfl) (by rfl) (by rfl) (bytes_Compare.walk w _ hM a0 ao1 cap1 f1 a1 ao2 cap2 f2 _ H5) ?_
  rintro _ w5 ⟨rfl, hc5, hMn⟩ a ha
  have o1 : Ok [] (M) w.heap.size := Ok.nil _ _
  have o2 : Ok (M) (M) w.heap.size := (fun _ h => .inl (h))
  have f1 := f1.chg hc5 o1 o2
  have f2 := f2.chg hc5 o1 o2
  have hM : MS (M) w5 := (fun x h => hM.chg hc5 x (h))
  have hC := hC.trans hc5 (Ok.nil _ _)
  refine seg ha 1 [(4, .int .i64 t5)] (by kernel_rfl) fun a ha => ?_
  refine hK4 _ _ ?_; clear hK4 K4
  refine wp_ret ?_
  try simp only [Exit.then, Exit.inBlock]
  obtain rfl := Option.some.inj H
  refine rt1 ha rfl rfl ?_
  exact ⟨rfl, hC, hM⟩
def vinerylaw01_small.f (k : Nat) : Option (Bool) := (cursor_Open.f ([(1 : Int), (2 : Int), (3 : Int)] : List Int)).bind fun t8 => (cursor_Reader_Num.f k t8 (2 : Int)).bind fun t16 => (cursor_rest_Left.f t16.2.rest).bind fun t19 => (cursor_Reader_Num.f k t16.2 (2 : Int)).bind fun t21 => (cursor_Put.f k ([] : List Int) (258 : Int) (2 : Int)).bind fun t24 => (cursor_Put.f k ([] : List Int) (256 : Int) (1 : Int)).bind fun t27 => ((if (t16.1 == (258 : Int)) = true then (if (t19 == (1 : Int)) = true then (if (t21.1 == (0 : Int)) = true then (cursor_rest_Bad.f t21.2.rest).bind fun t34 => (if t34 = true then (if (t24.2 == (0 : Int)) = true then (if ((bstr (b2s t24.1)).toList == (bstr ([1, 2] : List UInt8)).toList) = true then (if (t27.2 == (5 : Int)) = true then (cursor_Order.f ([(97 : Int)] : List Int) ([(97 : Int), (98 : Int)] : List Int)).bind fun t55 => some (t55 == (-1 : Int) : Bool) else some (false : Bool)) else some (false : Bool)) else some (false : Bool)) else some (false : Bool)) else some (false : Bool)) else some (false : Bool)) else some (false : Bool))).bind fun s30 => some ((s30 : Bool))
set_option maxRecDepth 100000 in
theorem vinerylaw01_small.walk (w : World) (M : List Nat) (hM : MS M w)  (k : Nat) (r : Bool) (H : vinerylaw01_small.f k = some r) :
    To Try.prog 13 [] w fun v w' => v = .bool r ∧ Chg [] w w' ∧ MS (M) w' := by
  unfold vinerylaw01_small.f at H
  refine ent Try.func13 rfl [] rfl (by rfl) fun a ha => ?_
  have hC : Chg [] w w := Chg.refl _ _
  refine wp_seq_k fun K1 hK1 => ?_
  refine wp_region_lit ?_
  refine seg ha 1 [] (by kernel_rfl) fun a ha => ?_
  refine hK1 _ _ ?_; clear hK1 K1
  refine wp_seq_k fun K2 hK2 => ?_
  refine wp_region_lit ?_
  refine bsl (vals := ([.int .u8 (1 : Int), .int .u8 (2 : Int), .int .u8 (3 : Int)] : List Value)) (T := 5) ha rfl ([.int .u8 (1 : Int), .int .u8 (2 : Int), .int .u8 (3 : Int)] : List Value) (fun w => by kernel_rfl) rfl rfl rfl fun a w3 g4 hN5 ha => ?_
  have o1 : Ok [] (M) w.heap.size := Ok.nil _ _
  have o2 : Ok ([g4] ++ (M)) (M) w.heap.size := (Ok.app (hN5.ok _) (fun _ h => .inl (h)))
  have nw : Ok ([g4]) (M) w.heap.size := (hN5.ok _)
  have p_i6_M : ∀ x ∈ [g4], x ∉ M := fun x hx hy => absurd (hM x (hy)) (Nat.not_lt.2 ((hN5.ge1) x hx))
  have e_i6 : ∀ x ∈ [g4], w.heap.size ≤ x := fun x hx => Nat.le_trans hC.size ((hN5.ge1) x hx)
  have hM : MS ([g4] ++ (M)) w3 := (MS.app hN5.ms (fun x h => hM.chg hN5.chg x (h)))
  have hC := hC.trans hN5.chg (Ok.nil _ _)
  have f7 : Own (rInt .u8) 5 w3 ([g4] ++ (M)) (some ⟨g4, 0, none⟩) 3 ([(1 : Int), (2 : Int), (3 : Int)] : List Int) := hN5.own (⟨[_], _, rfl, rfl, ⟨[_], _, rfl, rfl, ⟨[_], _, rfl, rfl, rfl⟩⟩⟩) (by simp [maxLen])
  have fz := f7.toRSl (M' := M) (fun _ h => .inl (mr (h))) (fun x hx hm => p_i6_M x hx hm)
  have o1 : Ok [] ([g4] ++ (M)) w3.heap.size := Ok.nil _ _
  have o2 : Ok (M) ([g4] ++ (M)) w3.heap.size := (fun _ h => .inl (mr (h)))
  have hM : MS (M) w3 := (fun x h => hM.chg (Chg.refl [] _) x (mr (h)))
  have hC := hC.trans (Chg.refl [] _) (Ok.nil _ _)
  have f7 := fz
  obtain ⟨t8, H8, H⟩ := bind_some H
  refine cl ha (by rfl) (by kernel_rfl) (by rfl) (by rfl) (by rfl) (cursor_Open.walk w3 _ hM ([(1 : Int), (2 : Int), (3 : Int)] : List Int) (some ⟨g4, 0, none⟩) 3 f7 _ H8) ?_
  rintro _ w8 ⟨g9, ao11, cap11, rfl, f11, hBg9, ne_i10, hc8, hMn⟩ a ha
  have o1 : Ok [] (M) w3.heap.size := Ok.nil _ _
  have o2 : Ok ([g9] ++ (M)) (M) w3.heap.size := (Ok.app (fun x h => .inr (ne_i10 x h)) (fun _ h => .inl (h)))
  have f7 := f7.chg hc8 o1 o2
  have nw : Ok ([g9]) (M) w3.heap.size := (fun x h => .inr (ne_i10 x h))
  have p_i10_M : ∀ x ∈ [g9], x ∉ M := fun x hx hy => absurd (hM x (hy)) (Nat.not_lt.2 (ne_i10 x hx))
  have e_i10 : ∀ x ∈ [g9], w.heap.size ≤ x := fun x hx => Nat.le_trans hC.size (ne_i10 x hx)
  have hM : MS ([g9] ++ (M)) w8 := (MS.app (fun x h => hMn x (ml h)) (fun x h => hM.chg hc8 x (h)))
  have hC := hC.trans hc8 (Ok.nil _ _)
  refine seg ha 1 [(1, .pointer (some ⟨g9, 0, none⟩))] (by kernel_rfl) fun a ha => ?_
  refine hK2 _ _ ?_; clear hK2 K2
  refine wp_seq_k fun K12 hK12 => ?_
  refine wp_seq_k fun K13 hK13 => ?_
  refine wp_region_lit ?_
  refine seg ha 2 [(1, .pointer (some ⟨g9, 0, none⟩)), (12, .bool false)] (by kernel_rfl) fun a ha => ?_
  refine hK13 _ _ ?_; clear hK13 K13
  refine cnd ha rfl (fun h => nomatch h) (fun _ => ?_)
  refine wp_skip ?_
  refine hK12 _ _ ?_; clear hK12 K12
  refine wp_seq_k fun K15 hK15 => ?_
  refine wp_region_lit ?_
  refine seg ha 1 [(1, .pointer (some ⟨g9, 0, none⟩)), (13, .pointer (some ⟨g9, 0, none⟩))] (by kernel_rfl) fun a ha => ?_
  obtain ⟨t16, H16, H⟩ := bind_some H
  refine cl ha (by rfl) (by kernel_rfl) (by rfl) (by rfl) (by rfl) (cursor_Reader_Num.walk w8 _ hM g9 t8 ao11 cap11 f11 hBg9 (ml (List.mem_singleton.2 rfl)) (2 : Int) k _ H16) ?_
  rintro _ w16 ⟨ao17, cap17, rfl, f17, qhBg9, hc16, hMn⟩ a ha
  have o1 : Ok [g9] ([g9] ++ (M)) w8.heap.size := (fun _ h => .inl (ml h))
  have o2 : Ok ([g9] ++ (M)) ([g9] ++ (M)) w8.heap.size := (Ok.app (fun _ h => .inl (ml h)) (fun _ h => .inl (mr (h))))
  have f11 := f11.chg hc16 o1 o2
  have hM : MS ([g9] ++ (M)) w16 := (MS.app (fun x h => hM.chg hc16 x (ml h)) (fun x h => hM.chg hc16 x (mr (h))))
  have hC := hC.trans hc16 (fun x h => .inr (e_i10 x h))
  have hBg9 := qhBg9
  refine seg ha 1 [(1, .pointer (some ⟨g9, 0, none⟩)), (2, .int .i64 t16.1)] (by kernel_rfl) fun a ha => ?_
  refine hK15 _ _ ?_; clear hK15 K15
  refine wp_seq_k fun K18 hK18 => ?_
  refine wp_region_lit ?_
  refine seg ha 3 [(1, .pointer (some ⟨g9, 0, none⟩)), (2, .int .i64 t16.1), (17, .pointer (some ⟨g9, 0, none⟩))] (by kernel_rfl) fun a ha => ?_
  obtain ⟨t19, H19, H⟩ := bind_some H
  refine cl ha (by rfl) (by kernel_rfl) (by rfl) (by rfl) (by rfl) (cursor_rest_Left.walk w16 _ hM g9 t16.2.rest ao17 cap17 f17 hBg9 (ml (List.mem_singleton.2 rfl)) _ H19) ?_
  rintro _ w19 ⟨rfl, hc19, hMn⟩ a ha
  have o1 : Ok [] ([g9] ++ (M)) w16.heap.size := Ok.nil _ _
  have o2 : Ok ([g9] ++ (M)) ([g9] ++ (M)) w16.heap.size := (Ok.app (fun _ h => .inl (ml h)) (fun _ h => .inl (mr (h))))
  have f17 := f17.chg hc19 o1 o2
  have hBg9 := hBg9.chg hc19 (fun h => nomatch h)
  have hM : MS ([g9] ++ (M)) w19 := (MS.app (fun x h => hM.chg hc19 x (ml h)) (fun x h => hM.chg hc19 x (mr (h))))
  have hC := hC.trans hc19 (Ok.nil _ _)
  refine seg ha 1 [(1, .pointer (some ⟨g9, 0, none⟩)), (2, .int .i64 t16.1), (3, .int .i64 t19)] (by kernel_rfl) fun a ha => ?_
  refine hK18 _ _ ?_; clear hK18 K18
  refine wp_seq_k fun K20 hK20 => ?_
  refine wp_region_lit ?_
  refine seg ha 1 [(1, .pointer (some ⟨g9, 0, none⟩)), (2, .int .i64 t16.1), (3, .int .i64 t19), (19, .pointer (some ⟨g9, 0, none⟩))] (by kernel_rfl) fun a ha => ?_
  obtain ⟨t21, H21, H⟩ := bind_some H
  refine cl ha (by rfl) (by kernel_rfl) (by rfl) (by rfl) (by rfl) (cursor_Reader_Num.walk w19 _ hM g9 t16.2 ao17 cap17 f17 hBg9 (ml (List.mem_singleton.2 rfl)) (2 : Int) k _ H21) ?_
  rintro _ w21 ⟨ao22, cap22, rfl, f22, qhBg9, hc21, hMn⟩ a ha
  have o1 : Ok [g9] ([g9] ++ (M)) w19.heap.size := (fun _ h => .inl (ml h))
  have o2 : Ok ([g9] ++ (M)) ([g9] ++ (M)) w19.heap.size := (Ok.app (fun _ h => .inl (ml h)) (fun _ h => .inl (mr (h))))
  have f17 := f17.chg hc21 o1 o2
  have hM : MS ([g9] ++ (M)) w21 := (MS.app (fun x h => hM.chg hc21 x (ml h)) (fun x h => hM.chg hc21 x (mr (h))))
  have hC := hC.trans hc21 (fun x h => .inr (e_i10 x h))
  have hBg9 := qhBg9
  refine seg ha 1 [(1, .pointer (some ⟨g9, 0, none⟩)), (2, .int .i64 t16.1), (3, .int .i64 t19), (4, .int .i64 t21.1)] (by kernel_rfl) fun a ha => ?_
  refine hK20 _ _ ?_; clear hK20 K20
  refine wp_seq_k fun K23 hK23 => ?_
  refine wp_region_lit ?_
  obtain ⟨t24, H24, H⟩ := bind_some H
  refine cl ha (by rfl) (by kernel_rfl) (by rfl) (by rfl) (by rfl) (cursor_Put.walk w21 _ hM ([] : List Int) none 0 (RSl.nil (Nat.zero_le _)) (258 : Int) (2 : Int) k _ H24) ?_
  rintro _ w24 ⟨ao25, cap25, rfl, f25, ne_i25, hc24, hMn⟩ a ha
  have o1 : Ok [] ([g9] ++ (M)) w21.heap.size := Ok.nil _ _
  have o2 : Ok (blkL ao25 ++ ([g9] ++ (M))) ([g9] ++ (M)) w21.heap.size := (Ok.app (fun x h => .inr (ne_i25 x h)) (Ok.app (fun _ h => .inl (ml h)) (fun _ h => .inl (mr (h)))))
  have f22 := f22.chg hc24 o1 o2
  have hBg9 := hBg9.chg hc24 (fun h => nomatch h)
  have nw : Ok (blkL ao25) ([g9] ++ (M)) w21.heap.size := (fun x h => .inr (ne_i25 x h))
  have p_i25_i10 : ∀ x ∈ blkL ao25, x ∉ ([g9]) := fun x hx hy => absurd (hM x (ml hy)) (Nat.not_lt.2 (ne_i25 x hx))
  have p_i25_M : ∀ x ∈ blkL ao25, x ∉ M := fun x hx hy => absurd (hM x (mr (hy))) (Nat.not_lt.2 (ne_i25 x hx))
  have e_i25 : ∀ x ∈ blkL ao25, w.heap.size ≤ x := fun x hx => Nat.le_trans hC.size (ne_i25 x hx)
  have hM : MS (blkL ao25 ++ ([g9] ++ (M))) w24 := (MS.app (fun x h => hMn x (ml h)) (MS.app (fun x h => hM.chg hc24 x (ml h)) (fun x h => hM.chg hc24 x (mr (h)))))
  have hC := hC.trans hc24 (Ok.nil _ _)
  refine seg ha 5 [(1, .pointer (some ⟨g9, 0, none⟩)), (2, .int .i64 t16.1), (3, .int .i64 t19), (4, .int .i64 t21.1), (5, .slice ao25 t24.1.length cap25), (6, .int .i64 t24.2)] (by kernel_rfl) fun a ha => ?_
  refine hK23 _ _ ?_; clear hK23 K23
  refine wp_seq_k fun K26 hK26 => ?_
  refine wp_region_lit ?_
  obtain ⟨t27, H27, H⟩ := bind_some H
  refine cl ha (by rfl) (by kernel_rfl) (by rfl) (by rfl) (by rfl) (cursor_Put.walk w24 _ hM ([] : List Int) none 0 (RSl.nil (Nat.zero_le _)) (256 : Int) (1 : Int) k _ H27) ?_
  rintro _ w27 ⟨ao28, cap28, rfl, f28, ne_i28, hc27, hMn⟩ a ha
  have o1 : Ok [] (blkL ao25 ++ ([g9] ++ (M))) w24.heap.size := Ok.nil _ _
  have o2 : Ok (blkL ao28 ++ (blkL ao25 ++ ([g9] ++ (M)))) (blkL ao25 ++ ([g9] ++ (M))) w24.heap.size := (Ok.app (fun x h => .inr (ne_i28 x h)) (Ok.app (fun _ h => .inl (ml h)) (Ok.app (fun _ h => .inl (mr (ml h))) (fun _ h => .inl (mr (mr (h)))))))
  have f25 := f25.chg hc27 o1 o2 (fun _ _ h => nomatch h) (fun _ h => mr (ml h))
  have f22 := f22.chg hc27 o1 o2
  have hBg9 := hBg9.chg hc27 (fun h => nomatch h)
  have nw : Ok (blkL ao28) (blkL ao25 ++ ([g9] ++ (M))) w24.heap.size := (fun x h => .inr (ne_i28 x h))
  have p_i28_i25 : ∀ x ∈ blkL ao28, x ∉ (blkL ao25) := fun x hx hy => absurd (hM x (ml hy)) (Nat.not_lt.2 (ne_i28 x hx))
  have p_i28_i10 : ∀ x ∈ blkL ao28, x ∉ ([g9]) := fun x hx hy => absurd (hM x (mr (ml hy))) (Nat.not_lt.2 (ne_i28 x hx))
  have p_i28_M : ∀ x ∈ blkL ao28, x ∉ M := fun x hx hy => absurd (hM x (mr (mr (hy)))) (Nat.not_lt.2 (ne_i28 x hx))
  have e_i28 : ∀ x ∈ blkL ao28, w.heap.size ≤ x := fun x hx => Nat.le_trans hC.size (ne_i28 x hx)
  have hM : MS (blkL ao28 ++ (blkL ao25 ++ ([g9] ++ (M)))) w27 := (MS.app (fun x h => hMn x (ml h)) (MS.app (fun x h => hM.chg hc27 x (ml h)) (MS.app (fun x h => hM.chg hc27 x (mr (ml h))) (fun x h => hM.chg hc27 x (mr (mr (h)))))))
  have hC := hC.trans hc27 (Ok.nil _ _)
  refine seg ha 5 [(1, .pointer (some ⟨g9, 0, none⟩)), (2, .int .i64 t16.1), (3, .int .i64 t19), (4, .int .i64 t21.1), (5, .slice ao25 t24.1.length cap25), (6, .int .i64 t24.2), (8, .int .i64 t27.2)] (by kernel_rfl) fun a ha => ?_
  refine hK26 _ _ ?_; clear hK26 K26
  refine wp_seq_k fun K29 hK29 => ?_
  refine wp_region_lit ?_
  obtain ⟨s30, H30, H⟩ := bind_some H
  have J30 : ∀ (a : Act) (w30 : World), Has a Try.f13.ntmps [(0, .bool s30)] → (RSl (rInt .u8) 5 w30 ([g9] ++ (M)) ao22 cap22 t21.2.rest.left) → (Box w30 g9 ([.slice ao22 t21.2.rest.left.length cap22, .bool t21.2.rest.bad] : List Value)) → (Chg [] w w30) → (MS ([g9] ++ (M)) w30) → K29 a w30 := by
    intro a w30 ha f22 hBg9 hC hM
    refine hK29 _ _ ?_; clear hK29 K29
    refine wp_ret ?_
    try simp only [Exit.then, Exit.inBlock]
    have o1 : Ok [] ([g9] ++ (M)) w30.heap.size := Ok.nil _ _
    have o2 : Ok (M) ([g9] ++ (M)) w30.heap.size := (fun _ h => .inl (mr (h)))
    have f22 := f22.chg (Chg.refl [] _) o1 o2
    have hBg9 := hBg9.chg (Chg.refl [] _) (fun h => nomatch h)
    have hM : MS (M) w30 := (fun x h => hM.chg (Chg.refl [] _) x (mr (h)))
    have hC := hC.trans (Chg.refl [] _) (Ok.nil _ _)
    obtain rfl := Option.some.inj H
    refine rt1 ha rfl rfl ?_
    exact ⟨rfl, hC, hM⟩
  have H := H30
  refine seg ha 3 [(31, .bool (t16.1 == (258 : Int))), (1, .pointer (some ⟨g9, 0, none⟩)), (3, .int .i64 t19), (4, .int .i64 t21.1), (5, .slice ao25 t24.1.length cap25), (6, .int .i64 t24.2), (8, .int .i64 t27.2)] (by kernel_rfl) fun a ha => ?_
  rcases Bool.eq_false_or_eq_true (t16.1 == (258 : Int)) with hb31 | hb31
  · have ha := ha.lit hb31
    have H := ite_t hb31 H
    refine sgh ha 4 [2, 2, 3, 0] [(35, .bool (t19 == (1 : Int))), (1, .pointer (some ⟨g9, 0, none⟩)), (4, .int .i64 t21.1), (5, .slice ao25 t24.1.length cap25), (6, .int .i64 t24.2), (8, .int .i64 t27.2)] (by kernel_rfl) fun a ha => ?_
    rcases Bool.eq_false_or_eq_true (t19 == (1 : Int)) with hb32 | hb32
    · have ha := ha.lit hb32
      have H := ite_t hb32 H
      refine sgh ha 4 [2, 2, 3, 0] [(39, .bool (t21.1 == (0 : Int))), (1, .pointer (some ⟨g9, 0, none⟩)), (5, .slice ao25 t24.1.length cap25), (6, .int .i64 t24.2), (8, .int .i64 t27.2)] (by kernel_rfl) fun a ha => ?_
      rcases Bool.eq_false_or_eq_true (t21.1 == (0 : Int)) with hb33 | hb33
      · have ha := ha.lit hb33
        have H := ite_t hb33 H
        refine sgh ha 3 [2, 2, 2] [(5, .slice ao25 t24.1.length cap25), (6, .int .i64 t24.2), (8, .int .i64 t27.2), (39, .bool true), (42, .pointer (some ⟨g9, 0, none⟩))] (by kernel_rfl) fun a ha => ?_
        obtain ⟨t34, H34, H⟩ := bind_some H
        refine cl ha (by rfl) (by kernel_rfl) (by rfl) (by rfl) (by rfl) (cursor_rest_Bad.walk w27 _ hM g9 t21.2.rest ao22 cap22 f22 hBg9 (mr (mr (ml (List.mem_singleton.2 rfl)))) _ H34) ?_
        rintro _ w34 ⟨rfl, hc34, hMn⟩ a ha
        have o1 : Ok [] (blkL ao28 ++ (blkL ao25 ++ ([g9] ++ (M)))) w27.heap.size := Ok.nil _ _
        have o2 : Ok (blkL ao28 ++ (blkL ao25 ++ ([g9] ++ (M)))) (blkL ao28 ++ (blkL ao25 ++ ([g9] ++ (M)))) w27.heap.size := (Ok.app (fun _ h => .inl (ml h)) (Ok.app (fun _ h => .inl (mr (ml h))) (Ok.app (fun _ h => .inl (mr (mr (ml h)))) (fun _ h => .inl (mr (mr (mr (h))))))))
        have f25 := f25.chg hc34 o1 o2 (fun _ _ h => nomatch h) (fun _ h => mr (ml h))
        have f22 := f22.chg hc34 o1 o2
        have hBg9 := hBg9.chg hc34 (fun h => nomatch h)
        have hM : MS (blkL ao28 ++ (blkL ao25 ++ ([g9] ++ (M)))) w34 := (MS.app (fun x h => hM.chg hc34 x (ml h)) (MS.app (fun x h => hM.chg hc34 x (mr (ml h))) (MS.app (fun x h => hM.chg hc34 x (mr (mr (ml h)))) (fun x h => hM.chg hc34 x (mr (mr (mr (h))))))))
        have hC := hC.trans hc34 (Ok.nil _ _)
        refine sgh ha 2 [3, 0] [(45, .bool t34), (5, .slice ao25 t24.1.length cap25), (6, .int .i64 t24.2), (8, .int .i64 t27.2)] (by kernel_rfl) fun a ha => ?_
        rcases Bool.eq_false_or_eq_true (t34) with hb35 | hb35
        · have ha := ha.lit hb35
          have H := ite_t hb35 H
          refine sgh ha 4 [2, 2, 3, 0] [(49, .bool (t24.2 == (0 : Int))), (5, .slice ao25 t24.1.length cap25), (8, .int .i64 t27.2)] (by kernel_rfl) fun a ha => ?_
          rcases Bool.eq_false_or_eq_true (t24.2 == (0 : Int)) with hb36 | hb36
          · have ha := ha.lit hb36
            have H := ite_t hb36 H
            refine sgh ha 1 [2] [(8, .int .i64 t27.2), (49, .bool true), (50, .slice ao25 t24.1.length cap25)] (by kernel_rfl) fun a ha => ?_
            refine cvs ha rfl (by kernel_rfl) (by kernel_rfl) (by kernel_rfl) rfl rfl rfl (Own.toRSl (M' := []) f25 (Ok.nil _ _) (fun _ _ h => nomatch h)) fun a ha => ?_
            refine sgh ha 3 [2, 3, 0] [(54, .bool ((bstr (b2s t24.1)).toList == (bstr ([1, 2] : List UInt8)).toList)), (8, .int .i64 t27.2)] (by kernel_rfl) fun a ha => ?_
            rcases Bool.eq_false_or_eq_true ((bstr (b2s t24.1)).toList == (bstr ([1, 2] : List UInt8)).toList) with hb37 | hb37
            · have ha := ha.lit hb37
              have H := ite_t hb37 H
              refine sgh ha 4 [2, 2, 3, 0] [(58, .bool (t27.2 == (5 : Int)))] (by kernel_rfl) fun a ha => ?_
              rcases Bool.eq_false_or_eq_true (t27.2 == (5 : Int)) with hb38 | hb38
              · have ha := ha.lit hb38
                have H := ite_t hb38 H
                refine bsl (vals := ([.int .u8 (97 : Int)] : List Value)) (T := 5) ha rfl ([.int .u8 (97 : Int)] : List Value) (fun w => by kernel_rfl) rfl rfl rfl fun a w39 g40 hN41 ha => ?_
                have o1 : Ok [] (blkL ao28 ++ (blkL ao25 ++ ([g9] ++ (M)))) w34.heap.size := Ok.nil _ _
                have o2 : Ok ([g40] ++ (blkL ao28 ++ (blkL ao25 ++ ([g9] ++ (M))))) (blkL ao28 ++ (blkL ao25 ++ ([g9] ++ (M)))) w34.heap.size := (Ok.app (hN41.ok _) (Ok.app (fun _ h => .inl (ml h)) (Ok.app (fun _ h => .inl (mr (ml h))) (Ok.app (fun _ h => .inl (mr (mr (ml h)))) (fun _ h => .inl (mr (mr (mr (h)))))))))
                have f22 := f22.chg hN41.chg o1 o2
                have hBg9 := hBg9.chg hN41.chg (fun h => nomatch h)
                have nw : Ok ([g40]) (blkL ao28 ++ (blkL ao25 ++ ([g9] ++ (M)))) w34.heap.size := (hN41.ok _)
                have p_i42_i28 : ∀ x ∈ [g40], x ∉ (blkL ao28) := fun x hx hy => absurd (hM x (ml hy)) (Nat.not_lt.2 ((hN41.ge1) x hx))
                have p_i42_i25 : ∀ x ∈ [g40], x ∉ (blkL ao25) := fun x hx hy => absurd (hM x (mr (ml hy))) (Nat.not_lt.2 ((hN41.ge1) x hx))
                have p_i42_i10 : ∀ x ∈ [g40], x ∉ ([g9]) := fun x hx hy => absurd (hM x (mr (mr (ml hy)))) (Nat.not_lt.2 ((hN41.ge1) x hx))
                have p_i42_M : ∀ x ∈ [g40], x ∉ M := fun x hx hy => absurd (hM x (mr (mr (mr (hy))))) (Nat.not_lt.2 ((hN41.ge1) x hx))
                have e_i42 : ∀ x ∈ [g40], w.heap.size ≤ x := fun x hx => Nat.le_trans hC.size ((hN41.ge1) x hx)
                have hM : MS ([g40] ++ (blkL ao28 ++ (blkL ao25 ++ ([g9] ++ (M))))) w39 := (MS.app hN41.ms (MS.app (fun x h => hM.chg hN41.chg x (ml h)) (MS.app (fun x h => hM.chg hN41.chg x (mr (ml h))) (MS.app (fun x h => hM.chg hN41.chg x (mr (mr (ml h)))) (fun x h => hM.chg hN41.chg x (mr (mr (mr (h)))))))))
                have hC := hC.trans hN41.chg (Ok.nil _ _)
                have f43 : Own (rInt .u8) 5 w39 ([g40] ++ (blkL ao28 ++ (blkL ao25 ++ ([g9] ++ (M))))) (some ⟨g40, 0, none⟩) 1 ([(97 : Int)] : List Int) := hN41.own (⟨[_], _, rfl, rfl, rfl⟩) (by simp [maxLen])
                refine cvl ha rfl (by kernel_rfl) (by kernel_rfl) rfl rfl rfl f43 fun a w44 hc45 hL46 ha => ?_
                have nL46 : ∀ x ∈ [g40], x ∉ (blkL ao28 ++ (blkL ao25 ++ ([g9] ++ (M)))) := fun x hx hm => (List.mem_append.1 hm).elim (fun h => p_i42_i28 x hx h) (fun h => (List.mem_append.1 h).elim (fun h => p_i42_i25 x hx h) (fun h => (List.mem_append.1 h).elim (fun h => p_i42_i10 x hx h) (fun h => p_i42_M x hx h)))
                have o1 : Ok [g40] ([g40] ++ (blkL ao28 ++ (blkL ao25 ++ ([g9] ++ (M))))) w39.heap.size := (fun _ h => .inl (ml h))
                have o2 : Ok (blkL ao28 ++ (blkL ao25 ++ ([g9] ++ (M)))) ([g40] ++ (blkL ao28 ++ (blkL ao25 ++ ([g9] ++ (M))))) w39.heap.size := (Ok.app (fun _ h => .inl (mr (ml h))) (Ok.app (fun _ h => .inl (mr (mr (ml h)))) (Ok.app (fun _ h => .inl (mr (mr (mr (ml h))))) (fun _ h => .inl (mr (mr (mr (mr (h)))))))))
                have f22 := f22.chg hc45 o1 o2
                have hBg9 := hBg9.chg hc45 ((fun x hx hy => p_i42_i10 x hy hx) g9 (by simp))
                have hM : MS (blkL ao28 ++ (blkL ao25 ++ ([g9] ++ (M)))) w44 := (MS.app (fun x h => hM.chg hc45 x (mr (ml h))) (MS.app (fun x h => hM.chg hc45 x (mr (mr (ml h)))) (MS.app (fun x h => hM.chg hc45 x (mr (mr (mr (ml h))))) (fun x h => hM.chg hc45 x (mr (mr (mr (mr (h)))))))))
                have hC := hC.trans hc45 (fun x h => .inr (e_i42 x h))
                have f46 := hL46 _ (nL46 _ (by simp))
                refine bsl (vals := ([.int .u8 (97 : Int), .int .u8 (98 : Int)] : List Value)) (T := 5) ha rfl ([.int .u8 (97 : Int), .int .u8 (98 : Int)] : List Value) (fun w => by kernel_rfl) rfl rfl rfl fun a w47 g48 hN49 ha => ?_
                have o1 : Ok [] (blkL ao28 ++ (blkL ao25 ++ ([g9] ++ (M)))) w44.heap.size := Ok.nil _ _
                have o2 : Ok ([g48] ++ (blkL ao28 ++ (blkL ao25 ++ ([g9] ++ (M))))) (blkL ao28 ++ (blkL ao25 ++ ([g9] ++ (M)))) w44.heap.size := (Ok.app (hN49.ok _) (Ok.app (fun _ h => .inl (ml h)) (Ok.app (fun _ h => .inl (mr (ml h))) (Ok.app (fun _ h => .inl (mr (mr (ml h)))) (fun _ h => .inl (mr (mr (mr (h)))))))))
                have f46 := f46.chg hN49.chg o1 o2
                have f22 := f22.chg hN49.chg o1 o2
                have hBg9 := hBg9.chg hN49.chg (fun h => nomatch h)
                have nw : Ok ([g48]) (blkL ao28 ++ (blkL ao25 ++ ([g9] ++ (M)))) w44.heap.size := (hN49.ok _)
                have p_i50_i28 : ∀ x ∈ [g48], x ∉ (blkL ao28) := fun x hx hy => absurd (hM x (ml hy)) (Nat.not_lt.2 ((hN49.ge1) x hx))
                have p_i50_i25 : ∀ x ∈ [g48], x ∉ (blkL ao25) := fun x hx hy => absurd (hM x (mr (ml hy))) (Nat.not_lt.2 ((hN49.ge1) x hx))
                have p_i50_i10 : ∀ x ∈ [g48], x ∉ ([g9]) := fun x hx hy => absurd (hM x (mr (mr (ml hy)))) (Nat.not_lt.2 ((hN49.ge1) x hx))
                have p_i50_M : ∀ x ∈ [g48], x ∉ M := fun x hx hy => absurd (hM x (mr (mr (mr (hy))))) (Nat.not_lt.2 ((hN49.ge1) x hx))
                have e_i50 : ∀ x ∈ [g48], w.heap.size ≤ x := fun x hx => Nat.le_trans hC.size ((hN49.ge1) x hx)
                have hM : MS ([g48] ++ (blkL ao28 ++ (blkL ao25 ++ ([g9] ++ (M))))) w47 := (MS.app hN49.ms (MS.app (fun x h => hM.chg hN49.chg x (ml h)) (MS.app (fun x h => hM.chg hN49.chg x (mr (ml h))) (MS.app (fun x h => hM.chg hN49.chg x (mr (mr (ml h)))) (fun x h => hM.chg hN49.chg x (mr (mr (mr (h)))))))))
                have hC := hC.trans hN49.chg (Ok.nil _ _)
                have f51 : Own (rInt .u8) 5 w47 ([g48] ++ (blkL ao28 ++ (blkL ao25 ++ ([g9] ++ (M))))) (some ⟨g48, 0, none⟩) 2 ([(97 : Int), (98 : Int)] : List Int) := hN49.own (⟨[_], _, rfl, rfl, ⟨[_], _, rfl, rfl, rfl⟩⟩) (by simp [maxLen])
                refine cvl ha rfl (by kernel_rfl) (by kernel_rfl) rfl rfl rfl f51 fun a w52 hc53 hL54 ha => ?_
                have nL54 : ∀ x ∈ [g48], x ∉ (blkL ao28 ++ (blkL ao25 ++ ([g9] ++ (M)))) := fun x hx hm => (List.mem_append.1 hm).elim (fun h => p_i50_i28 x hx h) (fun h => (List.mem_append.1 h).elim (fun h => p_i50_i25 x hx h) (fun h => (List.mem_append.1 h).elim (fun h => p_i50_i10 x hx h) (fun h => p_i50_M x hx h)))
                have o1 : Ok [g48] ([g48] ++ (blkL ao28 ++ (blkL ao25 ++ ([g9] ++ (M))))) w47.heap.size := (fun _ h => .inl (ml h))
                have o2 : Ok (blkL ao28 ++ (blkL ao25 ++ ([g9] ++ (M)))) ([g48] ++ (blkL ao28 ++ (blkL ao25 ++ ([g9] ++ (M))))) w47.heap.size := (Ok.app (fun _ h => .inl (mr (ml h))) (Ok.app (fun _ h => .inl (mr (mr (ml h)))) (Ok.app (fun _ h => .inl (mr (mr (mr (ml h))))) (fun _ h => .inl (mr (mr (mr (mr (h)))))))))
                have f46 := f46.chg hc53 o1 o2
                have f22 := f22.chg hc53 o1 o2
                have hBg9 := hBg9.chg hc53 ((fun x hx hy => p_i50_i10 x hy hx) g9 (by simp))
                have hM : MS (blkL ao28 ++ (blkL ao25 ++ ([g9] ++ (M)))) w52 := (MS.app (fun x h => hM.chg hc53 x (mr (ml h))) (MS.app (fun x h => hM.chg hc53 x (mr (mr (ml h)))) (MS.app (fun x h => hM.chg hc53 x (mr (mr (mr (ml h))))) (fun x h => hM.chg hc53 x (mr (mr (mr (mr (h)))))))))
                have hC := hC.trans hc53 (fun x h => .inr (e_i50 x h))
                have f54 := hL54 _ (nL54 _ (by simp))
                obtain ⟨t55, H55, H⟩ := bind_some H
                refine cl ha (by rfl) (by kernel_rfl) (by rfl) (by rfl) (by rfl) (cursor_Order.walk w52 _ hM ([(97 : Int)] : List Int) (some ⟨g40, 0, none⟩) 1 f46 ([(97 : Int), (98 : Int)] : List Int) (some ⟨g48, 0, none⟩) 2 f54 _ H55) ?_
                rintro _ w55 ⟨rfl, hc55, hMn⟩ a ha
                have o1 : Ok [] (blkL ao28 ++ (blkL ao25 ++ ([g9] ++ (M)))) w52.heap.size := Ok.nil _ _
                have o2 : Ok (blkL ao28 ++ (blkL ao25 ++ ([g9] ++ (M)))) (blkL ao28 ++ (blkL ao25 ++ ([g9] ++ (M)))) w52.heap.size := (Ok.app (fun _ h => .inl (ml h)) (Ok.app (fun _ h => .inl (mr (ml h))) (Ok.app (fun _ h => .inl (mr (mr (ml h)))) (fun _ h => .inl (mr (mr (mr (h))))))))
                have f46 := f46.chg hc55 o1 o2
                have f54 := f54.chg hc55 o1 o2
                have f22 := f22.chg hc55 o1 o2
                have hBg9 := hBg9.chg hc55 (fun h => nomatch h)
                have hM : MS (blkL ao28 ++ (blkL ao25 ++ ([g9] ++ (M)))) w55 := (MS.app (fun x h => hM.chg hc55 x (ml h)) (MS.app (fun x h => hM.chg hc55 x (mr (ml h))) (MS.app (fun x h => hM.chg hc55 x (mr (mr (ml h)))) (fun x h => hM.chg hc55 x (mr (mr (mr (h))))))))
                have hC := hC.trans hc55 (Ok.nil _ _)
                refine sgh ha 3 [2, 3, 0] [(0, .bool (t55 == (-1 : Int)))] (by kernel_rfl) fun a ha => ?_
                obtain rfl := Option.some.inj H
                have o1 : Ok [] (blkL ao28 ++ (blkL ao25 ++ ([g9] ++ (M)))) w55.heap.size := Ok.nil _ _
                have o2 : Ok ([g9] ++ (M)) (blkL ao28 ++ (blkL ao25 ++ ([g9] ++ (M)))) w55.heap.size := (Ok.app (fun _ h => .inl (mr (mr (ml h)))) (fun _ h => .inl (mr (mr (mr (h))))))
                have f22 := f22.chg (Chg.refl [] _) o1 o2
                have hBg9 := hBg9.chg (Chg.refl [] _) (fun h => nomatch h)
                have hM : MS ([g9] ++ (M)) w55 := (MS.app (fun x h => hM.chg (Chg.refl [] _) x (mr (mr (ml h)))) (fun x h => hM.chg (Chg.refl [] _) x (mr (mr (mr (h))))))
                have hC := hC.trans (Chg.refl [] _) (Ok.nil _ _)
                exact J30 _ _ (ha.sel (by kernel_rfl)) f22 hBg9 hC hM
              · have ha := ha.lit hb38
                have H := ite_f hb38 H
                refine sgh ha 8 [1, 1, 1, 1, 1, 1, 4, 0] [(0, .bool false)] (by kernel_rfl) fun a ha => ?_
                obtain rfl := Option.some.inj H
                have o1 : Ok [] (blkL ao28 ++ (blkL ao25 ++ ([g9] ++ (M)))) w34.heap.size := Ok.nil _ _
                have o2 : Ok ([g9] ++ (M)) (blkL ao28 ++ (blkL ao25 ++ ([g9] ++ (M)))) w34.heap.size := (Ok.app (fun _ h => .inl (mr (mr (ml h)))) (fun _ h => .inl (mr (mr (mr (h))))))
                have f22 := f22.chg (Chg.refl [] _) o1 o2
                have hBg9 := hBg9.chg (Chg.refl [] _) (fun h => nomatch h)
                have hM : MS ([g9] ++ (M)) w34 := (MS.app (fun x h => hM.chg (Chg.refl [] _) x (mr (mr (ml h)))) (fun x h => hM.chg (Chg.refl [] _) x (mr (mr (mr (h))))))
                have hC := hC.trans (Chg.refl [] _) (Ok.nil _ _)
                exact J30 _ _ (ha.sel (by kernel_rfl)) f22 hBg9 hC hM
            · have ha := ha.lit hb37
              have H := ite_f hb37 H
              refine sgh ha 12 [1, 1, 4, 0, 1, 1, 1, 1, 1, 1, 4, 0] [(0, .bool false)] (by kernel_rfl) fun a ha => ?_
              obtain rfl := Option.some.inj H
              have o1 : Ok [] (blkL ao28 ++ (blkL ao25 ++ ([g9] ++ (M)))) w34.heap.size := Ok.nil _ _
              have o2 : Ok ([g9] ++ (M)) (blkL ao28 ++ (blkL ao25 ++ ([g9] ++ (M)))) w34.heap.size := (Ok.app (fun _ h => .inl (mr (mr (ml h)))) (fun _ h => .inl (mr (mr (mr (h))))))
              have f22 := f22.chg (Chg.refl [] _) o1 o2
              have hBg9 := hBg9.chg (Chg.refl [] _) (fun h => nomatch h)
              have hM : MS ([g9] ++ (M)) w34 := (MS.app (fun x h => hM.chg (Chg.refl [] _) x (mr (mr (ml h)))) (fun x h => hM.chg (Chg.refl [] _) x (mr (mr (mr (h))))))
              have hC := hC.trans (Chg.refl [] _) (Ok.nil _ _)
              exact J30 _ _ (ha.sel (by kernel_rfl)) f22 hBg9 hC hM
          · have ha := ha.lit hb36
            have H := ite_f hb36 H
            refine sgh ha 17 [1, 1, 1, 4, 0, 1, 1, 4, 0, 1, 1, 1, 1, 1, 1, 4, 0] [(0, .bool false)] (by kernel_rfl) fun a ha => ?_
            obtain rfl := Option.some.inj H
            have o1 : Ok [] (blkL ao28 ++ (blkL ao25 ++ ([g9] ++ (M)))) w34.heap.size := Ok.nil _ _
            have o2 : Ok ([g9] ++ (M)) (blkL ao28 ++ (blkL ao25 ++ ([g9] ++ (M)))) w34.heap.size := (Ok.app (fun _ h => .inl (mr (mr (ml h)))) (fun _ h => .inl (mr (mr (mr (h))))))
            have f22 := f22.chg (Chg.refl [] _) o1 o2
            have hBg9 := hBg9.chg (Chg.refl [] _) (fun h => nomatch h)
            have hM : MS ([g9] ++ (M)) w34 := (MS.app (fun x h => hM.chg (Chg.refl [] _) x (mr (mr (ml h)))) (fun x h => hM.chg (Chg.refl [] _) x (mr (mr (mr (h))))))
            have hC := hC.trans (Chg.refl [] _) (Ok.nil _ _)
            exact J30 _ _ (ha.sel (by kernel_rfl)) f22 hBg9 hC hM
        · have ha := ha.lit hb35
          have H := ite_f hb35 H
          refine sgh ha 21 [1, 1, 4, 0, 1, 1, 1, 4, 0, 1, 1, 4, 0, 1, 1, 1, 1, 1, 1, 4, 0] [(0, .bool false)] (by kernel_rfl) fun a ha => ?_
          obtain rfl := Option.some.inj H
          have o1 : Ok [] (blkL ao28 ++ (blkL ao25 ++ ([g9] ++ (M)))) w34.heap.size := Ok.nil _ _
          have o2 : Ok ([g9] ++ (M)) (blkL ao28 ++ (blkL ao25 ++ ([g9] ++ (M)))) w34.heap.size := (Ok.app (fun _ h => .inl (mr (mr (ml h)))) (fun _ h => .inl (mr (mr (mr (h))))))
          have f22 := f22.chg (Chg.refl [] _) o1 o2
          have hBg9 := hBg9.chg (Chg.refl [] _) (fun h => nomatch h)
          have hM : MS ([g9] ++ (M)) w34 := (MS.app (fun x h => hM.chg (Chg.refl [] _) x (mr (mr (ml h)))) (fun x h => hM.chg (Chg.refl [] _) x (mr (mr (mr (h))))))
          have hC := hC.trans (Chg.refl [] _) (Ok.nil _ _)
          exact J30 _ _ (ha.sel (by kernel_rfl)) f22 hBg9 hC hM
      · have ha := ha.lit hb33
        have H := ite_f hb33 H
        refine sgh ha 27 [1, 1, 1, 1, 4, 0, 1, 1, 4, 0, 1, 1, 1, 4, 0, 1, 1, 4, 0, 1, 1, 1, 1, 1, 1, 4, 0] [(0, .bool false)] (by kernel_rfl) fun a ha => ?_
        obtain rfl := Option.some.inj H
        have o1 : Ok [] (blkL ao28 ++ (blkL ao25 ++ ([g9] ++ (M)))) w27.heap.size := Ok.nil _ _
        have o2 : Ok ([g9] ++ (M)) (blkL ao28 ++ (blkL ao25 ++ ([g9] ++ (M)))) w27.heap.size := (Ok.app (fun _ h => .inl (mr (mr (ml h)))) (fun _ h => .inl (mr (mr (mr (h))))))
        have f22 := f22.chg (Chg.refl [] _) o1 o2
        have hBg9 := hBg9.chg (Chg.refl [] _) (fun h => nomatch h)
        have hM : MS ([g9] ++ (M)) w27 := (MS.app (fun x h => hM.chg (Chg.refl [] _) x (mr (mr (ml h)))) (fun x h => hM.chg (Chg.refl [] _) x (mr (mr (mr (h))))))
        have hC := hC.trans (Chg.refl [] _) (Ok.nil _ _)
        exact J30 _ _ (ha.sel (by kernel_rfl)) f22 hBg9 hC hM
    · have ha := ha.lit hb32
      have H := ite_f hb32 H
      refine sgh ha 31 [1, 1, 4, 0, 1, 1, 1, 1, 4, 0, 1, 1, 4, 0, 1, 1, 1, 4, 0, 1, 1, 4, 0, 1, 1, 1, 1, 1, 1, 4, 0] [(0, .bool false)] (by kernel_rfl) fun a ha => ?_
      obtain rfl := Option.some.inj H
      have o1 : Ok [] (blkL ao28 ++ (blkL ao25 ++ ([g9] ++ (M)))) w27.heap.size := Ok.nil _ _
      have o2 : Ok ([g9] ++ (M)) (blkL ao28 ++ (blkL ao25 ++ ([g9] ++ (M)))) w27.heap.size := (Ok.app (fun _ h => .inl (mr (mr (ml h)))) (fun _ h => .inl (mr (mr (mr (h))))))
      have f22 := f22.chg (Chg.refl [] _) o1 o2
      have hBg9 := hBg9.chg (Chg.refl [] _) (fun h => nomatch h)
      have hM : MS ([g9] ++ (M)) w27 := (MS.app (fun x h => hM.chg (Chg.refl [] _) x (mr (mr (ml h)))) (fun x h => hM.chg (Chg.refl [] _) x (mr (mr (mr (h))))))
      have hC := hC.trans (Chg.refl [] _) (Ok.nil _ _)
      exact J30 _ _ (ha.sel (by kernel_rfl)) f22 hBg9 hC hM
  · have ha := ha.lit hb31
    have H := ite_f hb31 H
    refine sgh ha 35 [1, 1, 4, 0, 1, 1, 4, 0, 1, 1, 1, 1, 4, 0, 1, 1, 4, 0, 1, 1, 1, 4, 0, 1, 1, 4, 0, 1, 1, 1, 1, 1, 1, 4, 0] [(0, .bool false)] (by kernel_rfl) fun a ha => ?_
    obtain rfl := Option.some.inj H
    have o1 : Ok [] (blkL ao28 ++ (blkL ao25 ++ ([g9] ++ (M)))) w27.heap.size := Ok.nil _ _
    have o2 : Ok ([g9] ++ (M)) (blkL ao28 ++ (blkL ao25 ++ ([g9] ++ (M)))) w27.heap.size := (Ok.app (fun _ h => .inl (mr (mr (ml h)))) (fun _ h => .inl (mr (mr (mr (h))))))
    have f22 := f22.chg (Chg.refl [] _) o1 o2
    have hBg9 := hBg9.chg (Chg.refl [] _) (fun h => nomatch h)
    have hM : MS ([g9] ++ (M)) w27 := (MS.app (fun x h => hM.chg (Chg.refl [] _) x (mr (mr (ml h)))) (fun x h => hM.chg (Chg.refl [] _) x (mr (mr (mr (h))))))
    have hC := hC.trans (Chg.refl [] _) (Ok.nil _ _)
    exact J30 _ _ (ha.sel (by kernel_rfl)) f22 hBg9 hC hM
def cursor_Reader_Take.f (a0 : S_cursor_Reader) (a1 : Int) : Option (List Int × S_cursor_Reader) := (cursor_rest_next.f a0.rest a1).bind fun t4 => (bytes_Clone.f t4.1).bind fun t7 => some ((t7 : List Int), ((⟨t4.2⟩ : S_cursor_Reader) : S_cursor_Reader))
set_option maxRecDepth 100000 in
theorem cursor_Reader_Take.walk (w : World) (M : List Nat) (hM : MS M w) (gp0 : Nat) (a0 : S_cursor_Reader) (ao1 : Option Addr) (cap1 : Nat) (f1 : RSl (rInt .u8) 5 w M ao1 cap1 a0.rest.left) (hBgp0 : Box w gp0 ([.slice ao1 a0.rest.left.length cap1, .bool a0.rest.bad] : List Value)) (hg_gp0 : gp0 ∈ M) (a1 : Int) (r : List Int × S_cursor_Reader) (H : cursor_Reader_Take.f a0 a1 = some r) :
    To Try.prog 22 [.pointer (some ⟨gp0, 0, none⟩), .int .i64 a1] w fun v w' => ∃ (ao9 : Option Addr) (cap9 : Nat) (ao10 : Option Addr) (cap10 : Nat), v = .slice ao9 r.1.length cap9 ∧ (Own (rInt .u8) 5 w' (blkL ao9 ++ (M)) ao9 cap9 r.1) ∧ (RSl (rInt .u8) 5 w' (blkL ao9 ++ (M)) ao10 cap10 r.2.rest.left) ∧ (Box w' gp0 ([.slice ao10 r.2.rest.left.length cap10, .bool r.2.rest.bad] : List Value)) ∧ (∀ x ∈ blkL ao9, w.heap.size ≤ x) ∧ Chg [gp0] w w' ∧ MS (blkL ao9 ++ (M)) w' := by
  unfold cursor_Reader_Take.f at H
  refine ent Try.func22 rfl [(0, .pointer (some ⟨gp0, 0, none⟩)), (1, .int .i64 a1)] rfl (by rfl) fun a ha => ?_
  have hC : Chg [gp0] w w := Chg.refl _ _
  refine wp_seq_k fun K2 hK2 => ?_
  refine wp_region_lit ?_
  refine seg ha 1 [(0, .pointer (some ⟨gp0, 0, none⟩)), (1, .int .i64 a1)] (by kernel_rfl) fun a ha => ?_
  refine hK2 _ _ ?_; clear hK2 K2
  refine wp_seq_k fun K3 hK3 => ?_
  refine wp_region_lit ?_
  refine seg ha 4 [(7, .pointer (some ⟨gp0, 0, none⟩)), (8, .int .i64 a1)] (by kernel_rfl) fun a ha => ?_
  obtain ⟨t4, H4, H⟩ := bind_some H
  refine cl ha (by rfl) (by kernel_rfl) (by rfl) (by rfl) (by rfl) (cursor_rest_next.walk w _ hM gp0 a0.rest ao1 cap1 f1 hBgp0 (hg_gp0) a1 _ H4) ?_
  rintro _ w4 ⟨ao5, cap5, ao6, cap6, rfl, f5, f6, qhBgp0, hc4, hMn⟩ a ha
  have o1 : Ok [gp0] (M) w.heap.size := Ok.one (.inl (hg_gp0))
  have o2 : Ok (M) (M) w.heap.size := (fun _ h => .inl (h))
  have f1 := f1.chg hc4 o1 o2
  have hM : MS (M) w4 := (fun x h => hM.chg hc4 x (h))
  have hC := hC.trans hc4 (Ok.one (.inl (by simp)))
  have hBgp0 := qhBgp0
  obtain ⟨t7, H7, H⟩ := bind_some H
  refine cl ha (by rfl) (by kernel_rfl) (by rfl) (by rfl) (by rfl) (bytes_Clone.walk w4 _ hM t4.1 ao5 cap5 f5 _ H7) ?_
  rintro _ w7 ⟨ao8, cap8, rfl, f8, ne_i8, hc7, hMn⟩ a ha
  have o1 : Ok [] (M) w4.heap.size := Ok.nil _ _
  have o2 : Ok (blkL ao8 ++ (M)) (M) w4.heap.size := (Ok.app (fun x h => .inr (ne_i8 x h)) (fun _ h => .inl (h)))
  have f5 := f5.chg hc7 o1 o2
  have f6 := f6.chg hc7 o1 o2
  have hBgp0 := hBgp0.chg hc7 (fun h => nomatch h)
  have nw : Ok (blkL ao8) (M) w4.heap.size := (fun x h => .inr (ne_i8 x h))
  have p_i8_M : ∀ x ∈ blkL ao8, x ∉ M := fun x hx hy => absurd (hM x (hy)) (Nat.not_lt.2 (ne_i8 x hx))
  have e_i8 : ∀ x ∈ blkL ao8, w.heap.size ≤ x := fun x hx => Nat.le_trans hC.size (ne_i8 x hx)
  have hM : MS (blkL ao8 ++ (M)) w7 := (MS.app (fun x h => hMn x (ml h)) (fun x h => hM.chg hc7 x (h)))
  have hC := hC.trans hc7 (Ok.nil _ _)
  refine seg ha 1 [(4, .slice ao8 t7.length cap8)] (by kernel_rfl) fun a ha => ?_
  refine hK3 _ _ ?_; clear hK3 K3
  refine wp_ret ?_
  try simp only [Exit.then, Exit.inBlock]
  obtain rfl := Option.some.inj H
  refine rt1 ha rfl rfl ?_
  exact ⟨ao8, cap8, ao6, cap6, rfl, f8, f6, hBgp0, e_i8, hC, hM⟩
def vinerylaw01_CursorBack.f (k : Nat) (a0 : List Int) (a1 : Int) (a2 : Int) : Option (Bool) := (vinerylaw01_small.f k ).bind fun t4 => (cursor_Put.f k a0 a1 a2).bind fun t6 => lv (S := Unit) ((if (t6.2 == (0 : Int)) = true then (cursor_Open.f t6.1).bind fun t40 => ((cursor_Reader_Take.f t40 (a0.length : Int)).bind fun t52 => (if (!((bstr (b2s t52.1)).toList == (bstr (b2s a0)).toList)) = true then some ((true : Bool), (t52.2.rest.left : List Int), (t52.2.rest.bad : Bool)) else (cursor_Reader_Num.f k t52.2 a2).bind fun t58 => (if (t58.1 != a1) = true then some ((true : Bool), (t58.2.rest.left : List Int), (t58.2.rest.bad : Bool)) else (cursor_rest_Left.f t58.2.rest).bind fun t62 => (if (t62 != (0 : Int)) = true then some ((true : Bool), (t58.2.rest.left : List Int), (t58.2.rest.bad : Bool)) else (cursor_rest_Bad.f t58.2.rest).bind fun t65 => some ((t65 : Bool), (t58.2.rest.left : List Int), (t58.2.rest.bad : Bool)))))).bind fun s47 => (if s47.1 = true then some (.inl (some ((false : Bool)))) else some (.inr ((() : Unit)))) else some (.inr ((() : Unit))))) fun s9 => (cursor_Open.f a0).bind fun t11 => (cursor_Reader_Num.f k t11 a2).bind fun t19 => (cursor_rest_Bad.f t19.2.rest).bind fun t23 => (if t23 = true then some ((if (if t4 = true then (t19.1 == (0 : Int)) else false) = true then (if (if (decide (a2 < (1 : Int))) = true then true else (decide (a2 > (4 : Int)))) = true then true else (decide (a2 > (a0.length : Int)))) else false : Bool)) else (cursor_Put.f k ([] : List Int) t19.1 a2).bind fun t27 => ((if t4 = true then (if (t27.2 == (0 : Int)) = true then (if 0 ≤ (0 : Int) ∧ (0 : Int) ≤ a2 ∧ a2 ≤ (a0.length : Int) then some ((bstr (b2s t27.1)).toList == (bstr (b2s ((a0.take (Int.toNat a2)).drop (Int.toNat (0 : Int))))).toList : Bool) else none) else some (false : Bool)) else some (false : Bool))).bind fun s32 => some ((s32 : Bool)))
set_option maxRecDepth 100000 in
theorem vinerylaw01_CursorBack.walk (w : World) (M : List Nat) (hM : MS M w) (a0 : List Int) (ao1 : Option Addr) (cap1 : Nat) (f1 : RSl (rInt .u8) 5 w M ao1 cap1 a0) (a1 : Int) (a2 : Int) (k : Nat) (r : Bool) (H : vinerylaw01_CursorBack.f k a0 a1 a2 = some r) :
    To Try.prog 5 [.slice ao1 a0.length cap1, .int .i64 a1, .int .i64 a2] w fun v w' => v = .bool r ∧ Chg [] w w' ∧ MS (M) w' := by
  unfold vinerylaw01_CursorBack.f at H
  refine ent Try.func5 rfl [(0, .slice ao1 a0.length cap1), (1, .int .i64 a1), (2, .int .i64 a2)] rfl (by rfl) fun a ha => ?_
  have hC : Chg [] w w := Chg.refl _ _
  refine wp_seq_k fun K2 hK2 => ?_
  refine wp_region_lit ?_
  refine seg ha 1 [(0, .slice ao1 a0.length cap1), (1, .int .i64 a1), (2, .int .i64 a2)] (by kernel_rfl) fun a ha => ?_
  refine hK2 _ _ ?_; clear hK2 K2
  refine wp_seq_k fun K3 hK3 => ?_
  refine wp_region_lit ?_
  obtain ⟨t4, H4, H⟩ := bind_some H
  refine cl ha (by rfl) (by kernel_rfl) (by rfl) (by rfl) (by rfl) (vinerylaw01_small.walk w _ hM  k _ H4) ?_
  rintro _ w4 ⟨rfl, hc4, hMn⟩ a ha
  have o1 : Ok [] (M) w.heap.size := Ok.nil _ _
  have o2 : Ok (M) (M) w.heap.size := (fun _ h => .inl (h))
  have f1 := f1.chg hc4 o1 o2
  have hM : MS (M) w4 := (fun x h => hM.chg hc4 x (h))
  have hC := hC.trans hc4 (Ok.nil _ _)
  refine seg ha 1 [(0, .slice ao1 a0.length cap1), (1, .int .i64 a1), (2, .int .i64 a2), (7, .bool t4)] (by kernel_rfl) fun a ha => ?_
  refine hK3 _ _ ?_; clear hK3 K3
  refine wp_seq_k fun K5 hK5 => ?_
  refine wp_region_lit ?_
  refine seg ha 3 [(0, .slice ao1 a0.length cap1), (1, .int .i64 a1), (2, .int .i64 a2), (7, .bool t4), (17, .slice ao1 a0.length cap1), (18, .int .i64 a1), (19, .int .i64 a2)] (by kernel_rfl) fun a ha => ?_
  obtain ⟨t6, H6, H⟩ := bind_some H
  refine cl ha (by rfl) (by kernel_rfl) (by rfl) (by rfl) (by rfl) (cursor_Put.walk w4 _ hM a0 ao1 cap1 f1 a1 a2 k _ H6) ?_
  rintro _ w6 ⟨ao7, cap7, rfl, f7, ne_i7, hc6, hMn⟩ a ha
  have o1 : Ok [] (M) w4.heap.size := Ok.nil _ _
  have o2 : Ok (blkL ao7 ++ (M)) (M) w4.heap.size := (Ok.app (fun x h => .inr (ne_i7 x h)) (fun _ h => .inl (h)))
  have f1 := f1.chg hc6 o1 o2
  have nw : Ok (blkL ao7) (M) w4.heap.size := (fun x h => .inr (ne_i7 x h))
  have p_i7_M : ∀ x ∈ blkL ao7, x ∉ M := fun x hx hy => absurd (hM x (hy)) (Nat.not_lt.2 (ne_i7 x hx))
  have e_i7 : ∀ x ∈ blkL ao7, w.heap.size ≤ x := fun x hx => Nat.le_trans hC.size (ne_i7 x hx)
  have hM : MS (blkL ao7 ++ (M)) w6 := (MS.app (fun x h => hMn x (ml h)) (fun x h => hM.chg hc6 x (h)))
  have hC := hC.trans hc6 (Ok.nil _ _)
  refine seg ha 5 [(0, .slice ao1 a0.length cap1), (1, .int .i64 a1), (2, .int .i64 a2), (7, .bool t4), (8, .slice ao7 t6.1.length cap7), (9, .int .i64 t6.2)] (by kernel_rfl) fun a ha => ?_
  refine hK5 _ _ ?_; clear hK5 K5
  refine wp_seq_k fun K8 hK8 => ?_
  obtain ⟨s9o, H9, H⟩ := lv_some H
  have J9 : ∀ (s9 : Unit) (a : Act) (w9 : World), s9o = .inr s9 → Has a Try.f5.ntmps [(0, .slice ao1 a0.length cap1), (2, .int .i64 a2), (7, .bool t4)] → (RSl (rInt .u8) 5 w9 (M) ao1 cap1 a0) → (Chg [] w w9) → (MS (M) w9) → K8 a w9 := by
    intro s9 a w9 hs ha f1 hC hM
    subst hs
    refine hK8 _ _ ?_; clear hK8 K8
    refine wp_seq_k fun K10 hK10 => ?_
    refine wp_region_lit ?_
    refine seg ha 1 [(0, .slice ao1 a0.length cap1), (2, .int .i64 a2), (7, .bool t4), (59, .slice ao1 a0.length cap1)] (by kernel_rfl) fun a ha => ?_
    obtain ⟨t11, H11, H⟩ := bind_some H
    refine cl ha (by rfl) (by kernel_rfl) (by rfl) (by rfl) (by rfl) (cursor_Open.walk w9 _ hM a0 ao1 cap1 f1 _ H11) ?_
    rintro _ w11 ⟨g12, ao14, cap14, rfl, f14, hBg12, ne_i13, hc11, hMn⟩ a ha
    have o1 : Ok [] (M) w9.heap.size := Ok.nil _ _
    have o2 : Ok ([g12] ++ (M)) (M) w9.heap.size := (Ok.app (fun x h => .inr (ne_i13 x h)) (fun _ h => .inl (h)))
    have f1 := f1.chg hc11 o1 o2
    have nw : Ok ([g12]) (M) w9.heap.size := (fun x h => .inr (ne_i13 x h))
    have p_i13_M : ∀ x ∈ [g12], x ∉ M := fun x hx hy => absurd (hM x (hy)) (Nat.not_lt.2 (ne_i13 x hx))
    have e_i13 : ∀ x ∈ [g12], w.heap.size ≤ x := fun x hx => Nat.le_trans hC.size (ne_i13 x hx)
    have hM : MS ([g12] ++ (M)) w11 := (MS.app (fun x h => hMn x (ml h)) (fun x h => hM.chg hc11 x (h)))
    have hC := hC.trans hc11 (Ok.nil _ _)
    refine seg ha 1 [(0, .slice ao1 a0.length cap1), (2, .int .i64 a2), (7, .bool t4), (11, .pointer (some ⟨g12, 0, none⟩))] (by kernel_rfl) fun a ha => ?_
    refine hK10 _ _ ?_; clear hK10 K10
    refine wp_seq_k fun K15 hK15 => ?_
    refine wp_seq_k fun K16 hK16 => ?_
    refine wp_region_lit ?_
    refine seg ha 2 [(0, .slice ao1 a0.length cap1), (2, .int .i64 a2), (7, .bool t4), (11, .pointer (some ⟨g12, 0, none⟩)), (62, .bool false)] (by kernel_rfl) fun a ha => ?_
    refine hK16 _ _ ?_; clear hK16 K16
    refine cnd ha rfl (fun h => nomatch h) (fun _ => ?_)
    refine wp_skip ?_
    refine hK15 _ _ ?_; clear hK15 K15
    refine wp_seq_k fun K18 hK18 => ?_
    refine wp_region_lit ?_
    refine seg ha 2 [(0, .slice ao1 a0.length cap1), (2, .int .i64 a2), (7, .bool t4), (11, .pointer (some ⟨g12, 0, none⟩)), (63, .pointer (some ⟨g12, 0, none⟩)), (64, .int .i64 a2)] (by kernel_rfl) fun a ha => ?_
    obtain ⟨t19, H19, H⟩ := bind_some H
    refine cl ha (by rfl) (by kernel_rfl) (by rfl) (by rfl) (by rfl) (cursor_Reader_Num.walk w11 _ hM g12 t11 ao14 cap14 f14 hBg12 (ml (List.mem_singleton.2 rfl)) a2 k _ H19) ?_
    rintro _ w19 ⟨ao20, cap20, rfl, f20, qhBg12, hc19, hMn⟩ a ha
    have o1 : Ok [g12] ([g12] ++ (M)) w11.heap.size := (fun _ h => .inl (ml h))
    have o2 : Ok ([g12] ++ (M)) ([g12] ++ (M)) w11.heap.size := (Ok.app (fun _ h => .inl (ml h)) (fun _ h => .inl (mr (h))))
    have f1 := f1.chg hc19 o1 o2
    have f14 := f14.chg hc19 o1 o2
    have hM : MS ([g12] ++ (M)) w19 := (MS.app (fun x h => hM.chg hc19 x (ml h)) (fun x h => hM.chg hc19 x (mr (h))))
    have hC := hC.trans hc19 (fun x h => .inr (e_i13 x h))
    have hBg12 := qhBg12
    refine seg ha 1 [(0, .slice ao1 a0.length cap1), (2, .int .i64 a2), (7, .bool t4), (11, .pointer (some ⟨g12, 0, none⟩)), (12, .int .i64 t19.1)] (by kernel_rfl) fun a ha => ?_
    refine hK18 _ _ ?_; clear hK18 K18
    refine wp_seq_k fun K21 hK21 => ?_
    refine wp_seq_k fun K22 hK22 => ?_
    refine wp_region_lit ?_
    refine seg ha 3 [(0, .slice ao1 a0.length cap1), (2, .int .i64 a2), (7, .bool t4), (12, .int .i64 t19.1), (68, .pointer (some ⟨g12, 0, none⟩))] (by kernel_rfl) fun a ha => ?_
    obtain ⟨t23, H23, H⟩ := bind_some H
    refine cl ha (by rfl) (by kernel_rfl) (by rfl) (by rfl) (by rfl) (cursor_rest_Bad.walk w19 _ hM g12 t19.2.rest ao20 cap20 f20 hBg12 (ml (List.mem_singleton.2 rfl)) _ H23) ?_
    rintro _ w23 ⟨rfl, hc23, hMn⟩ a ha
    have o1 : Ok [] ([g12] ++ (M)) w19.heap.size := Ok.nil _ _
    have o2 : Ok ([g12] ++ (M)) ([g12] ++ (M)) w19.heap.size := (Ok.app (fun _ h => .inl (ml h)) (fun _ h => .inl (mr (h))))
    have f1 := f1.chg hc23 o1 o2
    have f20 := f20.chg hc23 o1 o2
    have hBg12 := hBg12.chg hc23 (fun h => nomatch h)
    have hM : MS ([g12] ++ (M)) w23 := (MS.app (fun x h => hM.chg hc23 x (ml h)) (fun x h => hM.chg hc23 x (mr (h))))
    have hC := hC.trans hc23 (Ok.nil _ _)
    refine hK22 _ _ ?_; clear hK22 K22
    refine cnd ha rfl (fun hc24 => ?_) (fun hc24 => ?_)
    · have H := ite_t hc24 H
      refine wp_seq_k fun K25 hK25 => ?_
      refine wp_region_lit ?_
      refine seg ha 20 [(6, .bool (if (if t4 = true then (t19.1 == (0 : Int)) else false) = true then (if (if (decide (a2 < (1 : Int))) = true then true else (decide (a2 > (4 : Int)))) = true then true else (decide (a2 > (a0.length : Int)))) else false))] (by kernel_rfl) fun a ha => ?_
      refine hK25 _ _ ?_; clear hK25 K25
      refine wp_ret ?_
      try simp only [Exit.then, Exit.inBlock]
      have o1 : Ok [] ([g12] ++ (M)) w23.heap.size := Ok.nil _ _
      have o2 : Ok (M) ([g12] ++ (M)) w23.heap.size := (fun _ h => .inl (mr (h)))
      have f20 := f20.chg (Chg.refl [] _) o1 o2
      have hBg12 := hBg12.chg (Chg.refl [] _) (fun h => nomatch h)
      have hM : MS (M) w23 := (fun x h => hM.chg (Chg.refl [] _) x (mr (h)))
      have hC := hC.trans (Chg.refl [] _) (Ok.nil _ _)
      obtain rfl := Option.some.inj H
      refine rt1 ha rfl rfl ?_
      exact ⟨rfl, hC, hM⟩
    · have H := ite_f hc24 H
      refine wp_skip ?_
      refine hK21 _ _ ?_; clear hK21 K21
      refine wp_seq_k fun K26 hK26 => ?_
      refine wp_region_lit ?_
      refine seg ha 2 [(0, .slice ao1 a0.length cap1), (2, .int .i64 a2), (7, .bool t4), (90, .int .i64 t19.1), (91, .int .i64 a2)] (by kernel_rfl) fun a ha => ?_
      obtain ⟨t27, H27, H⟩ := bind_some H
      refine cl ha (by rfl) (by kernel_rfl) (by rfl) (by rfl) (by rfl) (cursor_Put.walk w23 _ hM ([] : List Int) none 0 (RSl.nil (Nat.zero_le _)) t19.1 a2 k _ H27) ?_
      rintro _ w27 ⟨ao28, cap28, rfl, f28, ne_i28, hc27, hMn⟩ a ha
      have o1 : Ok [] ([g12] ++ (M)) w23.heap.size := Ok.nil _ _
      have o2 : Ok (blkL ao28 ++ ([g12] ++ (M))) ([g12] ++ (M)) w23.heap.size := (Ok.app (fun x h => .inr (ne_i28 x h)) (Ok.app (fun _ h => .inl (ml h)) (fun _ h => .inl (mr (h)))))
      have f1 := f1.chg hc27 o1 o2
      have f20 := f20.chg hc27 o1 o2
      have hBg12 := hBg12.chg hc27 (fun h => nomatch h)
      have nw : Ok (blkL ao28) ([g12] ++ (M)) w23.heap.size := (fun x h => .inr (ne_i28 x h))
      have p_i28_i13 : ∀ x ∈ blkL ao28, x ∉ ([g12]) := fun x hx hy => absurd (hM x (ml hy)) (Nat.not_lt.2 (ne_i28 x hx))
      have p_i28_M : ∀ x ∈ blkL ao28, x ∉ M := fun x hx hy => absurd (hM x (mr (hy))) (Nat.not_lt.2 (ne_i28 x hx))
      have e_i28 : ∀ x ∈ blkL ao28, w.heap.size ≤ x := fun x hx => Nat.le_trans hC.size (ne_i28 x hx)
      have hM : MS (blkL ao28 ++ ([g12] ++ (M))) w27 := (MS.app (fun x h => hMn x (ml h)) (MS.app (fun x h => hM.chg hc27 x (ml h)) (fun x h => hM.chg hc27 x (mr (h)))))
      have hC := hC.trans hc27 (Ok.nil _ _)
      refine seg ha 5 [(0, .slice ao1 a0.length cap1), (2, .int .i64 a2), (7, .bool t4), (13, .slice ao28 t27.1.length cap28), (14, .int .i64 t27.2)] (by kernel_rfl) fun a ha => ?_
      refine hK26 _ _ ?_; clear hK26 K26
      refine wp_seq_k fun K29 hK29 => ?_
      have z_f1 := f1
      have z_f28 := (Own.toRSl (M' := []) f28 (Ok.nil _ _) (fun _ _ h => nomatch h))
      have z_f20 := f20
      have z_hBg12 := hBg12
      have okS : Ok [] (blkL ao28 ++ ([g12] ++ (M))) w27.heap.size := Ok.nil _ _
      refine drw (fun w' => Chg [] w27 w') (by kernel_rfl) fun w30 hc31 _ => ?_
      have hS : Chg [] w27 w30 := (Chg.refl [] _).trans hc31 (Ok.nil _ _)
      have o1 : Ok [] (blkL ao28 ++ ([g12] ++ (M))) w27.heap.size := Ok.nil _ _
      have o2 : Ok (blkL ao28 ++ ([g12] ++ (M))) (blkL ao28 ++ ([g12] ++ (M))) w27.heap.size := (Ok.app (fun _ h => .inl (ml h)) (Ok.app (fun _ h => .inl (mr (ml h))) (fun _ h => .inl (mr (mr (h))))))
      have f1 := f1.chg hc31 o1 o2
      have f28 := f28.chg hc31 o1 o2 (fun _ _ h => nomatch h) (fun _ h => ml h)
      have f20 := f20.chg hc31 o1 o2
      have hBg12 := hBg12.chg hc31 (fun h => nomatch h)
      have hM : MS (blkL ao28 ++ ([g12] ++ (M))) w30 := (MS.app (fun x h => hM.chg hc31 x (ml h)) (MS.app (fun x h => hM.chg hc31 x (mr (ml h))) (fun x h => hM.chg hc31 x (mr (mr (h))))))
      have hC := hC.trans hc31 (Ok.nil _ _)
      obtain ⟨s32, H32, H⟩ := bind_some H
      have J32 : ∀ (a : Act) (w32 : World), Has a Try.f5.ntmps [(6, .bool s32)] → (RSl (rInt .u8) 5 w32 ([g12] ++ (M)) ao20 cap20 t19.2.rest.left) → (Box w32 g12 ([.slice ao20 t19.2.rest.left.length cap20, .bool t19.2.rest.bad] : List Value)) → (Chg [] w w32) → (MS ([g12] ++ (M)) w32) → K29 a w32 := by
        intro a w32 ha f20 hBg12 hC hM
        refine hK29 _ _ ?_; clear hK29 K29
        refine wp_ret ?_
        try simp only [Exit.then, Exit.inBlock]
        have o1 : Ok [] ([g12] ++ (M)) w32.heap.size := Ok.nil _ _
        have o2 : Ok (M) ([g12] ++ (M)) w32.heap.size := (fun _ h => .inl (mr (h)))
        have f20 := f20.chg (Chg.refl [] _) o1 o2
        have hBg12 := hBg12.chg (Chg.refl [] _) (fun h => nomatch h)
        have hM : MS (M) w32 := (fun x h => hM.chg (Chg.refl [] _) x (mr (h)))
        have hC := hC.trans (Chg.refl [] _) (Ok.nil _ _)
        obtain rfl := Option.some.inj H
        refine rt1 ha rfl rfl ?_
        exact ⟨rfl, hC, hM⟩
      have H := H32
      refine tkp 0 0 (.bool t4) ha (by rfl) (by kernel_rfl) (by kernel_rfl) (by kernel_rfl) (by rfl) (by rfl) (by rfl) (by exact fun _ _ _ h => h) (by kernel_rfl) hS fun a ha => ?_
      refine tkp 1 0 (.bool t4) ha (by rfl) (by kernel_rfl) (by kernel_rfl) (by kernel_rfl) (by rfl) (by rfl) (by rfl) (by exact fun _ _ _ h => h) (by kernel_rfl) hS fun a ha => ?_
      have ha := ha.sel (env' := [(96, .bool t4), (0, .slice ao1 a0.length cap1), (2, .int .i64 a2), (13, .slice ao28 t27.1.length cap28), (14, .int .i64 t27.2)]) (by kernel_rfl)
      rcases Bool.eq_false_or_eq_true (t4) with hb33 | hb33
      · have ha := ha.lit hb33
        have H := ite_t hb33 H
        refine tkp 2 0 (.int .i64 t27.2) ha (by rfl) (by kernel_rfl) (by kernel_rfl) (by kernel_rfl) (by rfl) (by rfl) (by rfl) (by exact fun _ _ _ h => h) (by kernel_rfl) hS fun a ha => ?_
        refine tkp 3 0 (.bool (t27.2 == (0 : Int))) ha (by rfl) (by kernel_rfl) (by kernel_rfl) (by kernel_rfl) (by rfl) (by rfl) (by rfl) (by exact fun _ _ _ h => h) (by kernel_rfl) hS fun a ha => ?_
        refine tkp 4 3 (.bool (t27.2 == (0 : Int))) ha (by rfl) (by kernel_rfl) (by kernel_rfl) (by kernel_rfl) (by rfl) (by rfl) (by rfl) (by exact fun _ _ _ h => h) (by kernel_rfl) hS fun a ha => ?_
        refine tkp 5 0 (.bool (t27.2 == (0 : Int))) ha (by rfl) (by kernel_rfl) (by kernel_rfl) (by kernel_rfl) (by rfl) (by rfl) (by rfl) (by exact fun _ _ _ h => h) (by kernel_rfl) hS fun a ha => ?_
        have ha := ha.sel (env' := [(100, .bool (t27.2 == (0 : Int))), (0, .slice ao1 a0.length cap1), (2, .int .i64 a2), (13, .slice ao28 t27.1.length cap28)]) (by kernel_rfl)
        rcases Bool.eq_false_or_eq_true (t27.2 == (0 : Int)) with hb34 | hb34
        · have ha := ha.lit hb34
          have H := ite_t hb34 H
          refine tkp 6 0 (.slice ao28 t27.1.length cap28) ha (by rfl) (by kernel_rfl) (by kernel_rfl) (by kernel_rfl) (by rfl) (by rfl) (by rfl) (by exact fun _ _ _ h => h) (by kernel_rfl) hS fun a ha => ?_
          refine tk 7 ha (by rfl) (by kernel_rfl) (by kernel_rfl) (by kernel_rfl) (by rfl) (by rfl) (by rfl) (by exact fun _ _ _ h => h) (v := .string (bstr (b2s t27.1))) (fun w' hs => cvs_run ha rfl (by kernel_rfl) (by kernel_rfl) (by kernel_rfl) (RSl.chg z_f28 hs (Ok.nil _ _) (Ok.refl _ _))) hS fun a ha => ?_
          refine tkp 8 0 (.slice ao1 a0.length cap1) ha (by rfl) (by kernel_rfl) (by kernel_rfl) (by kernel_rfl) (by rfl) (by rfl) (by rfl) (by exact fun _ _ _ h => h) (by kernel_rfl) hS fun a ha => ?_
          refine tkp 9 0 (.int .i64 a2) ha (by rfl) (by kernel_rfl) (by kernel_rfl) (by kernel_rfl) (by rfl) (by rfl) (by rfl) (by exact fun _ _ _ h => h) (by kernel_rfl) hS fun a ha => ?_
          obtain ⟨⟨hx35, hx35', hx35''⟩, H⟩ := ite_some H
          obtain ⟨ao36, cap36, z_f36, hr36⟩ := slc_run (r := (rInt .u8)) (t := 22) (lo := Option.none) (hi := (Option.some (Operand.tmp 104))) (l := (0 : Int)) (h := a2) (dd := some 105) (ty := 22) (pos := "law.go:132") (af := #[{ on := 8, ground := Ground.data }, { on := 9, ground := Ground.data }, { on := 5, ground := Ground.guard }]) (gd := (Option.some (5, Bool.true))) ha (by kernel_rfl) (by kernel_rfl) (x := (Operand.tmp 103)) rfl rfl rfl z_f1 hx35 hx35' hx35''
          refine tk 10 ha (by rfl) (by kernel_rfl) (by kernel_rfl) (by kernel_rfl) (by rfl) (by rfl) (by rfl) (by exact fun _ _ _ h => h) (v := .slice ao36 ((a0.take (Int.toNat a2)).drop (Int.toNat (0 : Int))).length cap36) (fun w' _ => hr36 w') hS fun a ha => ?_
          have f36 := RSl.chg z_f36 hS okS (Ok.refl _ _)
          refine tk 11 ha (by rfl) (by kernel_rfl) (by kernel_rfl) (by kernel_rfl) (by rfl) (by rfl) (by rfl) (by exact fun _ _ _ h => h) (v := .string (bstr (b2s ((a0.take (Int.toNat a2)).drop (Int.toNat (0 : Int)))))) (fun w' hs => cvs_run ha rfl (by kernel_rfl) (by kernel_rfl) (by kernel_rfl) (RSl.chg z_f36 hs okS (Ok.refl _ _))) hS fun a ha => ?_
          refine tkp 12 0 (.bool ((bstr (b2s t27.1)).toList == (bstr (b2s ((a0.take (Int.toNat a2)).drop (Int.toNat (0 : Int))))).toList)) ha (by rfl) (by kernel_rfl) (by kernel_rfl) (by kernel_rfl) (by rfl) (by rfl) (by rfl) (by exact fun _ _ _ h => h) (by kernel_rfl) hS fun a ha => ?_
          refine tkp 13 3 (.bool ((bstr (b2s t27.1)).toList == (bstr (b2s ((a0.take (Int.toNat a2)).drop (Int.toNat (0 : Int))))).toList)) ha (by rfl) (by kernel_rfl) (by kernel_rfl) (by kernel_rfl) (by rfl) (by rfl) (by rfl) (by exact fun _ _ _ h => h) (by kernel_rfl) hS fun a ha => ?_
          refine tkp 14 0 (.bool ((bstr (b2s t27.1)).toList == (bstr (b2s ((a0.take (Int.toNat a2)).drop (Int.toNat (0 : Int))))).toList)) ha (by rfl) (by kernel_rfl) (by kernel_rfl) (by kernel_rfl) (by rfl) (by rfl) (by rfl) (by exact fun _ _ _ h => h) (by kernel_rfl) hS fun a ha => ?_
          refine dn (by kernel_rfl) ?_
          obtain rfl := Option.some.inj H
          have o1 : Ok [] (blkL ao28 ++ ([g12] ++ (M))) w30.heap.size := Ok.nil _ _
          have o2 : Ok ([g12] ++ (M)) (blkL ao28 ++ ([g12] ++ (M))) w30.heap.size := (Ok.app (fun _ h => .inl (mr (ml h))) (fun _ h => .inl (mr (mr (h)))))
          have f20 := f20.chg (Chg.refl [] _) o1 o2
          have hBg12 := hBg12.chg (Chg.refl [] _) (fun h => nomatch h)
          have hM : MS ([g12] ++ (M)) w30 := (MS.app (fun x h => hM.chg (Chg.refl [] _) x (mr (ml h))) (fun x h => hM.chg (Chg.refl [] _) x (mr (mr (h)))))
          have hC := hC.trans (Chg.refl [] _) (Ok.nil _ _)
          exact J32 _ _ (ha.sel (by kernel_rfl)) f20 hBg12 hC hM
        · have ha := ha.lit hb34
          have H := ite_f hb34 H
          refine tko 6 ha (by rfl) (by kernel_rfl) (by kernel_rfl) (by kernel_rfl) (by rfl) (by rfl) (by rfl) (by exact fun _ _ _ h => h) hS fun a ha => ?_
          refine tko 7 ha (by rfl) (by kernel_rfl) (by kernel_rfl) (by kernel_rfl) (by rfl) (by rfl) (by rfl) (by exact fun _ _ _ h => h) hS fun a ha => ?_
          refine tko 8 ha (by rfl) (by kernel_rfl) (by kernel_rfl) (by kernel_rfl) (by rfl) (by rfl) (by rfl) (by exact fun _ _ _ h => h) hS fun a ha => ?_
          refine tko 9 ha (by rfl) (by kernel_rfl) (by kernel_rfl) (by kernel_rfl) (by rfl) (by rfl) (by rfl) (by exact fun _ _ _ h => h) hS fun a ha => ?_
          refine tko 10 ha (by rfl) (by kernel_rfl) (by kernel_rfl) (by kernel_rfl) (by rfl) (by rfl) (by rfl) (by exact fun _ _ _ h => h) hS fun a ha => ?_
          refine tko 11 ha (by rfl) (by kernel_rfl) (by kernel_rfl) (by kernel_rfl) (by rfl) (by rfl) (by rfl) (by exact fun _ _ _ h => h) hS fun a ha => ?_
          refine tko 12 ha (by rfl) (by kernel_rfl) (by kernel_rfl) (by kernel_rfl) (by rfl) (by rfl) (by rfl) (by exact fun _ _ _ h => h) hS fun a ha => ?_
          refine tkp 13 4 (.bool false) ha (by rfl) (by kernel_rfl) (by kernel_rfl) (by kernel_rfl) (by rfl) (by rfl) (by rfl) (by exact fun _ _ _ h => h) (by kernel_rfl) hS fun a ha => ?_
          refine tkp 14 0 (.bool false) ha (by rfl) (by kernel_rfl) (by kernel_rfl) (by kernel_rfl) (by rfl) (by rfl) (by rfl) (by exact fun _ _ _ h => h) (by kernel_rfl) hS fun a ha => ?_
          refine dn (by kernel_rfl) ?_
          obtain rfl := Option.some.inj H
          have o1 : Ok [] (blkL ao28 ++ ([g12] ++ (M))) w30.heap.size := Ok.nil _ _
          have o2 : Ok ([g12] ++ (M)) (blkL ao28 ++ ([g12] ++ (M))) w30.heap.size := (Ok.app (fun _ h => .inl (mr (ml h))) (fun _ h => .inl (mr (mr (h)))))
          have f20 := f20.chg (Chg.refl [] _) o1 o2
          have hBg12 := hBg12.chg (Chg.refl [] _) (fun h => nomatch h)
          have hM : MS ([g12] ++ (M)) w30 := (MS.app (fun x h => hM.chg (Chg.refl [] _) x (mr (ml h))) (fun x h => hM.chg (Chg.refl [] _) x (mr (mr (h)))))
          have hC := hC.trans (Chg.refl [] _) (Ok.nil _ _)
          exact J32 _ _ (ha.sel (by kernel_rfl)) f20 hBg12 hC hM
      · have ha := ha.lit hb33
        have H := ite_f hb33 H
        refine tko 2 ha (by rfl) (by kernel_rfl) (by kernel_rfl) (by kernel_rfl) (by rfl) (by rfl) (by rfl) (by exact fun _ _ _ h => h) hS fun a ha => ?_
        refine tko 3 ha (by rfl) (by kernel_rfl) (by kernel_rfl) (by kernel_rfl) (by rfl) (by rfl) (by rfl) (by exact fun _ _ _ h => h) hS fun a ha => ?_
        refine tkp 4 4 (.bool false) ha (by rfl) (by kernel_rfl) (by kernel_rfl) (by kernel_rfl) (by rfl) (by rfl) (by rfl) (by exact fun _ _ _ h => h) (by kernel_rfl) hS fun a ha => ?_
        refine tkp 5 0 (.bool false) ha (by rfl) (by kernel_rfl) (by kernel_rfl) (by kernel_rfl) (by rfl) (by rfl) (by rfl) (by exact fun _ _ _ h => h) (by kernel_rfl) hS fun a ha => ?_
        refine tko 6 ha (by rfl) (by kernel_rfl) (by kernel_rfl) (by kernel_rfl) (by rfl) (by rfl) (by rfl) (by exact fun _ _ _ h => h) hS fun a ha => ?_
        refine tko 7 ha (by rfl) (by kernel_rfl) (by kernel_rfl) (by kernel_rfl) (by rfl) (by rfl) (by rfl) (by exact fun _ _ _ h => h) hS fun a ha => ?_
        refine tko 8 ha (by rfl) (by kernel_rfl) (by kernel_rfl) (by kernel_rfl) (by rfl) (by rfl) (by rfl) (by exact fun _ _ _ h => h) hS fun a ha => ?_
        refine tko 9 ha (by rfl) (by kernel_rfl) (by kernel_rfl) (by kernel_rfl) (by rfl) (by rfl) (by rfl) (by exact fun _ _ _ h => h) hS fun a ha => ?_
        refine tko 10 ha (by rfl) (by kernel_rfl) (by kernel_rfl) (by kernel_rfl) (by rfl) (by rfl) (by rfl) (by exact fun _ _ _ h => h) hS fun a ha => ?_
        refine tko 11 ha (by rfl) (by kernel_rfl) (by kernel_rfl) (by kernel_rfl) (by rfl) (by rfl) (by rfl) (by exact fun _ _ _ h => h) hS fun a ha => ?_
        refine tko 12 ha (by rfl) (by kernel_rfl) (by kernel_rfl) (by kernel_rfl) (by rfl) (by rfl) (by rfl) (by exact fun _ _ _ h => h) hS fun a ha => ?_
        refine tkp 13 4 (.bool false) ha (by rfl) (by kernel_rfl) (by kernel_rfl) (by kernel_rfl) (by rfl) (by rfl) (by rfl) (by exact fun _ _ _ h => h) (by kernel_rfl) hS fun a ha => ?_
        refine tkp 14 0 (.bool false) ha (by rfl) (by kernel_rfl) (by kernel_rfl) (by kernel_rfl) (by rfl) (by rfl) (by rfl) (by exact fun _ _ _ h => h) (by kernel_rfl) hS fun a ha => ?_
        refine dn (by kernel_rfl) ?_
        obtain rfl := Option.some.inj H
        have o1 : Ok [] (blkL ao28 ++ ([g12] ++ (M))) w30.heap.size := Ok.nil _ _
        have o2 : Ok ([g12] ++ (M)) (blkL ao28 ++ ([g12] ++ (M))) w30.heap.size := (Ok.app (fun _ h => .inl (mr (ml h))) (fun _ h => .inl (mr (mr (h)))))
        have f20 := f20.chg (Chg.refl [] _) o1 o2
        have hBg12 := hBg12.chg (Chg.refl [] _) (fun h => nomatch h)
        have hM : MS ([g12] ++ (M)) w30 := (MS.app (fun x h => hM.chg (Chg.refl [] _) x (mr (ml h))) (fun x h => hM.chg (Chg.refl [] _) x (mr (mr (h)))))
        have hC := hC.trans (Chg.refl [] _) (Ok.nil _ _)
        exact J32 _ _ (ha.sel (by kernel_rfl)) f20 hBg12 hC hM
  have Hc9 := H
  have H := H9
  refine wp_seq_k fun K37 hK37 => ?_
  refine wp_region_lit ?_
  refine seg ha 2 [(0, .slice ao1 a0.length cap1), (1, .int .i64 a1), (2, .int .i64 a2), (7, .bool t4), (8, .slice ao7 t6.1.length cap7), (24, .bool (t6.2 == (0 : Int)))] (by kernel_rfl) fun a ha => ?_
  refine hK37 _ _ ?_; clear hK37 K37
  refine cnd ha rfl (fun hc38 => ?_) (fun hc38 => ?_)
  · have H := ite_t hc38 H
    refine wp_seq_k fun K39 hK39 => ?_
    refine wp_region_lit ?_
    refine seg ha 1 [(0, .slice ao1 a0.length cap1), (1, .int .i64 a1), (2, .int .i64 a2), (7, .bool t4), (25, .slice ao7 t6.1.length cap7)] (by kernel_rfl) fun a ha => ?_
    have fz := f7.toRSl (M' := M) (fun _ h => .inl (mr (h))) (fun x hx hm => p_i7_M x hx hm)
    have o1 : Ok [] (blkL ao7 ++ (M)) w6.heap.size := Ok.nil _ _
    have o2 : Ok (M) (blkL ao7 ++ (M)) w6.heap.size := (fun _ h => .inl (mr (h)))
    have f1 := f1.chg (Chg.refl [] _) o1 o2
    have hM : MS (M) w6 := (fun x h => hM.chg (Chg.refl [] _) x (mr (h)))
    have hC := hC.trans (Chg.refl [] _) (Ok.nil _ _)
    have f7 := fz
    obtain ⟨t40, H40, H⟩ := bind_some H
    refine cl ha (by rfl) (by kernel_rfl) (by rfl) (by rfl) (by rfl) (cursor_Open.walk w6 _ hM t6.1 ao7 cap7 f7 _ H40) ?_
    rintro _ w40 ⟨g41, ao43, cap43, rfl, f43, hBg41, ne_i42, hc40, hMn⟩ a ha
    have o1 : Ok [] (M) w6.heap.size := Ok.nil _ _
    have o2 : Ok ([g41] ++ (M)) (M) w6.heap.size := (Ok.app (fun x h => .inr (ne_i42 x h)) (fun _ h => .inl (h)))
    have f1 := f1.chg hc40 o1 o2
    have f7 := f7.chg hc40 o1 o2
    have nw : Ok ([g41]) (M) w6.heap.size := (fun x h => .inr (ne_i42 x h))
    have p_i42_M : ∀ x ∈ [g41], x ∉ M := fun x hx hy => absurd (hM x (hy)) (Nat.not_lt.2 (ne_i42 x hx))
    have e_i42 : ∀ x ∈ [g41], w.heap.size ≤ x := fun x hx => Nat.le_trans hC.size (ne_i42 x hx)
    have hM : MS ([g41] ++ (M)) w40 := (MS.app (fun x h => hMn x (ml h)) (fun x h => hM.chg hc40 x (h)))
    have hC := hC.trans hc40 (Ok.nil _ _)
    refine seg ha 1 [(0, .slice ao1 a0.length cap1), (1, .int .i64 a1), (2, .int .i64 a2), (7, .bool t4), (10, .pointer (some ⟨g41, 0, none⟩))] (by kernel_rfl) fun a ha => ?_
    refine hK39 _ _ ?_; clear hK39 K39
    refine wp_seq_k fun K44 hK44 => ?_
    have z_f1 := f1
    have z_f43 := f43
    have okS : Ok [g41] ([g41] ++ (M)) w40.heap.size := (fun _ h => .inl (ml h))
    refine drw (fun w' => Chg [g41] w40 w') (by kernel_rfl) fun w45 hc46 _ => ?_
    have hS : Chg [g41] w40 w45 := (Chg.refl [g41] _).trans hc46 (Ok.nil _ _)
    have o1 : Ok [] ([g41] ++ (M)) w40.heap.size := Ok.nil _ _
    have o2 : Ok ([g41] ++ (M)) ([g41] ++ (M)) w40.heap.size := (Ok.app (fun _ h => .inl (ml h)) (fun _ h => .inl (mr (h))))
    have f1 := f1.chg hc46 o1 o2
    have f43 := f43.chg hc46 o1 o2
    have hBg41 := hBg41.chg hc46 (fun h => nomatch h)
    have hM : MS ([g41] ++ (M)) w45 := (MS.app (fun x h => hM.chg hc46 x (ml h)) (fun x h => hM.chg hc46 x (mr (h))))
    have hC := hC.trans hc46 (Ok.nil _ _)
    obtain ⟨s47, H47, H⟩ := bind_some H
    have J47 : ∀ (a : Act) (w47 : World) (ao48 : Option Addr) (cap48 : Nat), Has a Try.f5.ntmps [(0, .slice ao1 a0.length cap1), (2, .int .i64 a2), (7, .bool t4), (58, .bool s47.1)] → (RSl (rInt .u8) 5 w47 ([g41] ++ (M)) ao1 cap1 a0) → (RSl (rInt .u8) 5 w47 ([g41] ++ (M)) ao48 cap48 s47.2.1) → (Box w47 g41 ([.slice ao48 s47.2.1.length cap48, .bool s47.2.2] : List Value)) → (Chg [] w w47) → (MS ([g41] ++ (M)) w47) → K44 a w47 := by
      intro a w47 ao48 cap48 ha f1 f48 hBg41 hC hM
      refine hK44 _ _ ?_; clear hK44 K44
      refine cnd ha rfl (fun hc49 => ?_) (fun hc49 => ?_)
      · have H := ite_t hc49 H
        refine wp_seq_k fun K50 hK50 => ?_
        refine wp_region_lit ?_
        refine seg ha 1 [(6, .bool false)] (by kernel_rfl) fun a ha => ?_
        refine hK50 _ _ ?_; clear hK50 K50
        refine wp_ret ?_
        obtain rfl := Option.some.inj H
        have H := Hc9
        try simp only [Exit.then, Exit.inBlock]
        have o1 : Ok [] ([g41] ++ (M)) w47.heap.size := Ok.nil _ _
        have o2 : Ok (M) ([g41] ++ (M)) w47.heap.size := (fun _ h => .inl (mr (h)))
        have f48 := f48.chg (Chg.refl [] _) o1 o2
        have hBg41 := hBg41.chg (Chg.refl [] _) (fun h => nomatch h)
        have hM : MS (M) w47 := (fun x h => hM.chg (Chg.refl [] _) x (mr (h)))
        have hC := hC.trans (Chg.refl [] _) (Ok.nil _ _)
        obtain rfl := Option.some.inj H
        refine rt1 ha rfl rfl ?_
        exact ⟨rfl, hC, hM⟩
      · have H := ite_f hc49 H
        refine wp_skip ?_
        obtain rfl := Option.some.inj H
        have o1 : Ok [] ([g41] ++ (M)) w47.heap.size := Ok.nil _ _
        have o2 : Ok (M) ([g41] ++ (M)) w47.heap.size := (fun _ h => .inl (mr (h)))
        have f1 := f1.chg (Chg.refl [] _) o1 o2
        have f48 := f48.chg (Chg.refl [] _) o1 o2
        have hBg41 := hBg41.chg (Chg.refl [] _) (fun h => nomatch h)
        have hM : MS (M) w47 := (fun x h => hM.chg (Chg.refl [] _) x (mr (h)))
        have hC := hC.trans (Chg.refl [] _) (Ok.nil _ _)
        exact J9 _ _ _ rfl (ha.sel (by kernel_rfl)) f1 hC hM
    have H := H47
    refine tkp 0 0 (.pointer (some ⟨g41, 0, none⟩)) ha (by rfl) (by kernel_rfl) (by kernel_rfl) (by kernel_rfl) (by rfl) (by rfl) (by rfl) (by exact fun _ _ _ h => h) (by kernel_rfl) hS fun a ha => ?_
    refine tkp 1 0 (.bool false) ha (by rfl) (by kernel_rfl) (by kernel_rfl) (by kernel_rfl) (by rfl) (by rfl) (by rfl) (by exact fun _ _ _ h => h) (by kernel_rfl) hS fun a ha => ?_
    refine tkp 2 0 (.bool false) ha (by rfl) (by kernel_rfl) (by kernel_rfl) (by kernel_rfl) (by rfl) (by rfl) (by rfl) (by exact fun _ _ _ h => h) (by kernel_rfl) hS fun a ha => ?_
    refine tkp 3 0 (.pointer (some ⟨g41, 0, none⟩)) ha (by rfl) (by kernel_rfl) (by kernel_rfl) (by kernel_rfl) (by rfl) (by rfl) (by rfl) (by exact fun _ _ _ h => h) (by kernel_rfl) hS fun a ha => ?_
    refine tkp 4 0 (.slice ao1 a0.length cap1) ha (by rfl) (by kernel_rfl) (by kernel_rfl) (by kernel_rfl) (by rfl) (by rfl) (by rfl) (by exact fun _ _ _ h => h) (by kernel_rfl) hS fun a ha => ?_
    refine tkp 5 0 (.int .i64 (a0.length : Int)) ha (by rfl) (by kernel_rfl) (by kernel_rfl) (by kernel_rfl) (by rfl) (by rfl) (by rfl) (by exact fun _ _ _ h => h) (by kernel_rfl) hS fun a ha => ?_
    refine tkp 8 0 (.slice ao1 a0.length cap1) ha (by rfl) (by kernel_rfl) (by kernel_rfl) (by kernel_rfl) (by rfl) (by rfl) (by rfl) (by exact fun _ _ _ h => h) (by kernel_rfl) hS fun a ha => ?_
    refine tk 9 ha (by rfl) (by kernel_rfl) (by kernel_rfl) (by kernel_rfl) (by rfl) (by rfl) (by rfl) (by exact fun _ _ _ h => h) (v := .string (bstr (b2s a0))) (fun w' hs => cvs_run ha rfl (by kernel_rfl) (by kernel_rfl) (by kernel_rfl) (RSl.chg z_f1 hs okS (Ok.refl _ _))) hS fun a ha => ?_
    refine ac 6 (by kernel_rfl) (by rfl) fun K51 hK51 => ?_
    obtain ⟨t52, H52, H⟩ := bind_some H
    refine cl ha (by rfl) (by kernel_rfl) (by rfl) (by rfl) (by rfl) (cursor_Reader_Take.walk w45 _ hM g41 t40 ao43 cap43 f43 hBg41 (ml (List.mem_singleton.2 rfl)) (a0.length : Int) _ H52) ?_
    rintro _ w52 ⟨ao53, cap53, ao54, cap54, rfl, f53, f54, qhBg41, ne_i53, hc52, hMn⟩ a ha
    have o1 : Ok [g41] ([g41] ++ (M)) w45.heap.size := (fun _ h => .inl (ml h))
    have o2 : Ok (blkL ao53 ++ ([g41] ++ (M))) ([g41] ++ (M)) w45.heap.size := (Ok.app (fun x h => .inr (ne_i53 x h)) (Ok.app (fun _ h => .inl (ml h)) (fun _ h => .inl (mr (h)))))
    have f1 := f1.chg hc52 o1 o2
    have f43 := f43.chg hc52 o1 o2
    have nw : Ok (blkL ao53) ([g41] ++ (M)) w45.heap.size := (fun x h => .inr (ne_i53 x h))
    have p_i53_i42 : ∀ x ∈ blkL ao53, x ∉ ([g41]) := fun x hx hy => absurd (hM x (ml hy)) (Nat.not_lt.2 (ne_i53 x hx))
    have p_i53_M : ∀ x ∈ blkL ao53, x ∉ M := fun x hx hy => absurd (hM x (mr (hy))) (Nat.not_lt.2 (ne_i53 x hx))
    have e_i53 : ∀ x ∈ blkL ao53, w.heap.size ≤ x := fun x hx => Nat.le_trans hC.size (ne_i53 x hx)
    have hM : MS (blkL ao53 ++ ([g41] ++ (M))) w52 := (MS.app (fun x h => hMn x (ml h)) (MS.app (fun x h => hM.chg hc52 x (ml h)) (fun x h => hM.chg hc52 x (mr (h)))))
    have hC := hC.trans hc52 (fun x h => .inr (e_i42 x h))
    have hS := hS.trans hc52 (fun x h => .inl h)
    have hBg41 := qhBg41
    refine ae hK51 hS ?_; clear hK51 K51
    refine ac 7 (by kernel_rfl) (by rfl) fun K55 hK55 => ?_
    refine cvs ha rfl (by kernel_rfl) (by kernel_rfl) (by kernel_rfl) rfl rfl rfl (Own.toRSl (M' := []) f53 (Ok.nil _ _) (fun _ _ h => nomatch h)) fun a ha => ?_
    refine ae hK55 hS ?_; clear hK55 K55
    refine tkp 10 0 (.bool (!((bstr (b2s t52.1)).toList == (bstr (b2s a0)).toList))) ha (by rfl) (by kernel_rfl) (by kernel_rfl) (by kernel_rfl) (by rfl) (by rfl) (by rfl) (by exact fun _ _ _ h => h) (by kernel_rfl) hS fun a ha => ?_
    refine tkp 11 4 (.bool (!((bstr (b2s t52.1)).toList == (bstr (b2s a0)).toList))) ha (by rfl) (by kernel_rfl) (by kernel_rfl) (by kernel_rfl) (by rfl) (by rfl) (by rfl) (by exact fun _ _ _ h => h) (by kernel_rfl) hS fun a ha => ?_
    refine tkp 12 0 (.bool (!((bstr (b2s t52.1)).toList == (bstr (b2s a0)).toList))) ha (by rfl) (by kernel_rfl) (by kernel_rfl) (by kernel_rfl) (by rfl) (by rfl) (by rfl) (by exact fun _ _ _ h => h) (by kernel_rfl) hS fun a ha => ?_
    have ha := ha.sel (env' := [(39, .bool (!((bstr (b2s t52.1)).toList == (bstr (b2s a0)).toList))), (0, .slice ao1 a0.length cap1), (1, .int .i64 a1), (2, .int .i64 a2), (7, .bool t4), (10, .pointer (some ⟨g41, 0, none⟩))]) (by kernel_rfl)
    rcases Bool.eq_false_or_eq_true (!((bstr (b2s t52.1)).toList == (bstr (b2s a0)).toList)) with hb56 | hb56
    · have ha := ha.lit hb56
      have H := ite_t hb56 H
      refine tko 13 ha (by rfl) (by kernel_rfl) (by kernel_rfl) (by kernel_rfl) (by rfl) (by rfl) (by rfl) (by exact fun _ _ _ h => h) hS fun a ha => ?_
      refine tko 14 ha (by rfl) (by kernel_rfl) (by kernel_rfl) (by kernel_rfl) (by rfl) (by rfl) (by rfl) (by exact fun _ _ _ h => h) hS fun a ha => ?_
      refine tko 15 ha (by rfl) (by kernel_rfl) (by kernel_rfl) (by kernel_rfl) (by rfl) (by rfl) (by rfl) (by exact fun _ _ _ h => h) hS fun a ha => ?_
      refine tko 16 ha (by rfl) (by kernel_rfl) (by kernel_rfl) (by kernel_rfl) (by rfl) (by rfl) (by rfl) (by exact fun _ _ _ h => h) hS fun a ha => ?_
      refine tko 17 ha (by rfl) (by kernel_rfl) (by kernel_rfl) (by kernel_rfl) (by rfl) (by rfl) (by rfl) (by exact fun _ _ _ h => h) hS fun a ha => ?_
      refine tkp 18 3 (.bool true) ha (by rfl) (by kernel_rfl) (by kernel_rfl) (by kernel_rfl) (by rfl) (by rfl) (by rfl) (by exact fun _ _ _ h => h) (by kernel_rfl) hS fun a ha => ?_
      refine tkp 19 0 (.bool true) ha (by rfl) (by kernel_rfl) (by kernel_rfl) (by kernel_rfl) (by rfl) (by rfl) (by rfl) (by exact fun _ _ _ h => h) (by kernel_rfl) hS fun a ha => ?_
      refine tko 20 ha (by rfl) (by kernel_rfl) (by kernel_rfl) (by kernel_rfl) (by rfl) (by rfl) (by rfl) (by exact fun _ _ _ h => h) hS fun a ha => ?_
      refine tko 21 ha (by rfl) (by kernel_rfl) (by kernel_rfl) (by kernel_rfl) (by rfl) (by rfl) (by rfl) (by exact fun _ _ _ h => h) hS fun a ha => ?_
      refine tko 22 ha (by rfl) (by kernel_rfl) (by kernel_rfl) (by kernel_rfl) (by rfl) (by rfl) (by rfl) (by exact fun _ _ _ h => h) hS fun a ha => ?_
      refine tko 23 ha (by rfl) (by kernel_rfl) (by kernel_rfl) (by kernel_rfl) (by rfl) (by rfl) (by rfl) (by exact fun _ _ _ h => h) hS fun a ha => ?_
      refine tko 24 ha (by rfl) (by kernel_rfl) (by kernel_rfl) (by kernel_rfl) (by rfl) (by rfl) (by rfl) (by exact fun _ _ _ h => h) hS fun a ha => ?_
      refine tkp 25 3 (.bool true) ha (by rfl) (by kernel_rfl) (by kernel_rfl) (by kernel_rfl) (by rfl) (by rfl) (by rfl) (by exact fun _ _ _ h => h) (by kernel_rfl) hS fun a ha => ?_
      refine tkp 26 0 (.bool true) ha (by rfl) (by kernel_rfl) (by kernel_rfl) (by kernel_rfl) (by rfl) (by rfl) (by rfl) (by exact fun _ _ _ h => h) (by kernel_rfl) hS fun a ha => ?_
      refine tko 27 ha (by rfl) (by kernel_rfl) (by kernel_rfl) (by kernel_rfl) (by rfl) (by rfl) (by rfl) (by exact fun _ _ _ h => h) hS fun a ha => ?_
      refine tko 28 ha (by rfl) (by kernel_rfl) (by kernel_rfl) (by kernel_rfl) (by rfl) (by rfl) (by rfl) (by exact fun _ _ _ h => h) hS fun a ha => ?_
      refine tko 29 ha (by rfl) (by kernel_rfl) (by kernel_rfl) (by kernel_rfl) (by rfl) (by rfl) (by rfl) (by exact fun _ _ _ h => h) hS fun a ha => ?_
      refine tko 30 ha (by rfl) (by kernel_rfl) (by kernel_rfl) (by kernel_rfl) (by rfl) (by rfl) (by rfl) (by exact fun _ _ _ h => h) hS fun a ha => ?_
      refine tkp 31 3 (.bool true) ha (by rfl) (by kernel_rfl) (by kernel_rfl) (by kernel_rfl) (by rfl) (by rfl) (by rfl) (by exact fun _ _ _ h => h) (by kernel_rfl) hS fun a ha => ?_
      refine dn (by kernel_rfl) ?_
      obtain rfl := Option.some.inj H
      have o1 : Ok [] (blkL ao53 ++ ([g41] ++ (M))) w52.heap.size := Ok.nil _ _
      have o2 : Ok ([g41] ++ (M)) (blkL ao53 ++ ([g41] ++ (M))) w52.heap.size := (Ok.app (fun _ h => .inl (mr (ml h))) (fun _ h => .inl (mr (mr (h)))))
      have f1 := f1.chg (Chg.refl [] _) o1 o2
      have f54 := f54.chg (Chg.refl [] _) o1 o2
      have hBg41 := hBg41.chg (Chg.refl [] _) (fun h => nomatch h)
      have hM : MS ([g41] ++ (M)) w52 := (MS.app (fun x h => hM.chg (Chg.refl [] _) x (mr (ml h))) (fun x h => hM.chg (Chg.refl [] _) x (mr (mr (h)))))
      have hC := hC.trans (Chg.refl [] _) (Ok.nil _ _)
      exact J47 _ _ ao54 cap54 (ha.sel (by kernel_rfl)) f1 f54 hBg41 hC hM
    · have ha := ha.lit hb56
      have H := ite_f hb56 H
      refine tkp 13 0 (.pointer (some ⟨g41, 0, none⟩)) ha (by rfl) (by kernel_rfl) (by kernel_rfl) (by kernel_rfl) (by rfl) (by rfl) (by rfl) (by exact fun _ _ _ h => h) (by kernel_rfl) hS fun a ha => ?_
      refine tkp 14 0 (.int .i64 a2) ha (by rfl) (by kernel_rfl) (by kernel_rfl) (by kernel_rfl) (by rfl) (by rfl) (by rfl) (by exact fun _ _ _ h => h) (by kernel_rfl) hS fun a ha => ?_
      refine tkp 16 0 (.int .i64 a1) ha (by rfl) (by kernel_rfl) (by kernel_rfl) (by kernel_rfl) (by rfl) (by rfl) (by rfl) (by exact fun _ _ _ h => h) (by kernel_rfl) hS fun a ha => ?_
      refine ac 15 (by kernel_rfl) (by rfl) fun K57 hK57 => ?_
      obtain ⟨t58, H58, H⟩ := bind_some H
      refine cl ha (by rfl) (by kernel_rfl) (by rfl) (by rfl) (by rfl) (cursor_Reader_Num.walk w52 _ hM g41 t52.2 ao54 cap54 f54 hBg41 (mr (ml (List.mem_singleton.2 rfl))) a2 k _ H58) ?_
      rintro _ w58 ⟨ao59, cap59, rfl, f59, qhBg41, hc58, hMn⟩ a ha
      have o1 : Ok [g41] (blkL ao53 ++ ([g41] ++ (M))) w52.heap.size := (fun _ h => .inl (mr (ml h)))
      have o2 : Ok (blkL ao53 ++ ([g41] ++ (M))) (blkL ao53 ++ ([g41] ++ (M))) w52.heap.size := (Ok.app (fun _ h => .inl (ml h)) (Ok.app (fun _ h => .inl (mr (ml h))) (fun _ h => .inl (mr (mr (h))))))
      have f1 := f1.chg hc58 o1 o2
      have f54 := f54.chg hc58 o1 o2
      have hM : MS (blkL ao53 ++ ([g41] ++ (M))) w58 := (MS.app (fun x h => hM.chg hc58 x (ml h)) (MS.app (fun x h => hM.chg hc58 x (mr (ml h))) (fun x h => hM.chg hc58 x (mr (mr (h))))))
      have hC := hC.trans hc58 (fun x h => .inr (e_i42 x h))
      have hS := hS.trans hc58 (fun x h => .inl h)
      have hBg41 := qhBg41
      refine ae hK57 hS ?_; clear hK57 K57
      refine tkp 17 0 (.bool (t58.1 != a1)) ha (by rfl) (by kernel_rfl) (by kernel_rfl) (by kernel_rfl) (by rfl) (by rfl) (by rfl) (by exact fun _ _ _ h => h) (by kernel_rfl) hS fun a ha => ?_
      refine tkp 18 4 (.bool (t58.1 != a1)) ha (by rfl) (by kernel_rfl) (by kernel_rfl) (by kernel_rfl) (by rfl) (by rfl) (by rfl) (by exact fun _ _ _ h => h) (by kernel_rfl) hS fun a ha => ?_
      refine tkp 19 0 (.bool (t58.1 != a1)) ha (by rfl) (by kernel_rfl) (by kernel_rfl) (by kernel_rfl) (by rfl) (by rfl) (by rfl) (by exact fun _ _ _ h => h) (by kernel_rfl) hS fun a ha => ?_
      have ha := ha.sel (env' := [(46, .bool (t58.1 != a1)), (0, .slice ao1 a0.length cap1), (2, .int .i64 a2), (7, .bool t4), (10, .pointer (some ⟨g41, 0, none⟩))]) (by kernel_rfl)
      rcases Bool.eq_false_or_eq_true (t58.1 != a1) with hb60 | hb60
      · have ha := ha.lit hb60
        have H := ite_t hb60 H
        refine tko 20 ha (by rfl) (by kernel_rfl) (by kernel_rfl) (by kernel_rfl) (by rfl) (by rfl) (by rfl) (by exact fun _ _ _ h => h) hS fun a ha => ?_
        refine tko 21 ha (by rfl) (by kernel_rfl) (by kernel_rfl) (by kernel_rfl) (by rfl) (by rfl) (by rfl) (by exact fun _ _ _ h => h) hS fun a ha => ?_
        refine tko 22 ha (by rfl) (by kernel_rfl) (by kernel_rfl) (by kernel_rfl) (by rfl) (by rfl) (by rfl) (by exact fun _ _ _ h => h) hS fun a ha => ?_
        refine tko 23 ha (by rfl) (by kernel_rfl) (by kernel_rfl) (by kernel_rfl) (by rfl) (by rfl) (by rfl) (by exact fun _ _ _ h => h) hS fun a ha => ?_
        refine tko 24 ha (by rfl) (by kernel_rfl) (by kernel_rfl) (by kernel_rfl) (by rfl) (by rfl) (by rfl) (by exact fun _ _ _ h => h) hS fun a ha => ?_
        refine tkp 25 3 (.bool true) ha (by rfl) (by kernel_rfl) (by kernel_rfl) (by kernel_rfl) (by rfl) (by rfl) (by rfl) (by exact fun _ _ _ h => h) (by kernel_rfl) hS fun a ha => ?_
        refine tkp 26 0 (.bool true) ha (by rfl) (by kernel_rfl) (by kernel_rfl) (by kernel_rfl) (by rfl) (by rfl) (by rfl) (by exact fun _ _ _ h => h) (by kernel_rfl) hS fun a ha => ?_
        refine tko 27 ha (by rfl) (by kernel_rfl) (by kernel_rfl) (by kernel_rfl) (by rfl) (by rfl) (by rfl) (by exact fun _ _ _ h => h) hS fun a ha => ?_
        refine tko 28 ha (by rfl) (by kernel_rfl) (by kernel_rfl) (by kernel_rfl) (by rfl) (by rfl) (by rfl) (by exact fun _ _ _ h => h) hS fun a ha => ?_
        refine tko 29 ha (by rfl) (by kernel_rfl) (by kernel_rfl) (by kernel_rfl) (by rfl) (by rfl) (by rfl) (by exact fun _ _ _ h => h) hS fun a ha => ?_
        refine tko 30 ha (by rfl) (by kernel_rfl) (by kernel_rfl) (by kernel_rfl) (by rfl) (by rfl) (by rfl) (by exact fun _ _ _ h => h) hS fun a ha => ?_
        refine tkp 31 3 (.bool true) ha (by rfl) (by kernel_rfl) (by kernel_rfl) (by kernel_rfl) (by rfl) (by rfl) (by rfl) (by exact fun _ _ _ h => h) (by kernel_rfl) hS fun a ha => ?_
        refine dn (by kernel_rfl) ?_
        obtain rfl := Option.some.inj H
        have o1 : Ok [] (blkL ao53 ++ ([g41] ++ (M))) w58.heap.size := Ok.nil _ _
        have o2 : Ok ([g41] ++ (M)) (blkL ao53 ++ ([g41] ++ (M))) w58.heap.size := (Ok.app (fun _ h => .inl (mr (ml h))) (fun _ h => .inl (mr (mr (h)))))
        have f1 := f1.chg (Chg.refl [] _) o1 o2
        have f59 := f59.chg (Chg.refl [] _) o1 o2
        have hBg41 := hBg41.chg (Chg.refl [] _) (fun h => nomatch h)
        have hM : MS ([g41] ++ (M)) w58 := (MS.app (fun x h => hM.chg (Chg.refl [] _) x (mr (ml h))) (fun x h => hM.chg (Chg.refl [] _) x (mr (mr (h)))))
        have hC := hC.trans (Chg.refl [] _) (Ok.nil _ _)
        exact J47 _ _ ao59 cap59 (ha.sel (by kernel_rfl)) f1 f59 hBg41 hC hM
      · have ha := ha.lit hb60
        have H := ite_f hb60 H
        refine tkp 20 0 (.pointer (some ⟨g41, 0, none⟩)) ha (by rfl) (by kernel_rfl) (by kernel_rfl) (by kernel_rfl) (by rfl) (by rfl) (by rfl) (by exact fun _ _ _ h => h) (by kernel_rfl) hS fun a ha => ?_
        refine tkp 21 0 (.pointer (some ⟨g41, 0, none⟩)) ha (by rfl) (by kernel_rfl) (by kernel_rfl) (by kernel_rfl) (by rfl) (by rfl) (by rfl) (by exact fun _ _ _ h => h) (by kernel_rfl) hS fun a ha => ?_
        refine tkp 22 0 (.pointer (some ⟨g41, 0, none⟩)) ha (by rfl) (by kernel_rfl) (by kernel_rfl) (by kernel_rfl) (by rfl) (by rfl) (by rfl) (by exact fun _ _ _ h => h) (by kernel_rfl) hS fun a ha => ?_
        refine ac 23 (by kernel_rfl) (by rfl) fun K61 hK61 => ?_
        obtain ⟨t62, H62, H⟩ := bind_some H
        refine cl ha (by rfl) (by kernel_rfl) (by rfl) (by rfl) (by rfl) (cursor_rest_Left.walk w58 _ hM g41 t58.2.rest ao59 cap59 f59 hBg41 (mr (ml (List.mem_singleton.2 rfl))) _ H62) ?_
        rintro _ w62 ⟨rfl, hc62, hMn⟩ a ha
        have o1 : Ok [] (blkL ao53 ++ ([g41] ++ (M))) w58.heap.size := Ok.nil _ _
        have o2 : Ok (blkL ao53 ++ ([g41] ++ (M))) (blkL ao53 ++ ([g41] ++ (M))) w58.heap.size := (Ok.app (fun _ h => .inl (ml h)) (Ok.app (fun _ h => .inl (mr (ml h))) (fun _ h => .inl (mr (mr (h))))))
        have f1 := f1.chg hc62 o1 o2
        have f59 := f59.chg hc62 o1 o2
        have hBg41 := hBg41.chg hc62 (fun h => nomatch h)
        have hM : MS (blkL ao53 ++ ([g41] ++ (M))) w62 := (MS.app (fun x h => hM.chg hc62 x (ml h)) (MS.app (fun x h => hM.chg hc62 x (mr (ml h))) (fun x h => hM.chg hc62 x (mr (mr (h))))))
        have hC := hC.trans hc62 (Ok.nil _ _)
        have hS := hS.trans hc62 (Ok.nil _ _)
        refine ae hK61 hS ?_; clear hK61 K61
        refine tkp 24 0 (.bool (t62 != (0 : Int))) ha (by rfl) (by kernel_rfl) (by kernel_rfl) (by kernel_rfl) (by rfl) (by rfl) (by rfl) (by exact fun _ _ _ h => h) (by kernel_rfl) hS fun a ha => ?_
        refine tkp 25 4 (.bool (t62 != (0 : Int))) ha (by rfl) (by kernel_rfl) (by kernel_rfl) (by kernel_rfl) (by rfl) (by rfl) (by rfl) (by exact fun _ _ _ h => h) (by kernel_rfl) hS fun a ha => ?_
        refine tkp 26 0 (.bool (t62 != (0 : Int))) ha (by rfl) (by kernel_rfl) (by kernel_rfl) (by kernel_rfl) (by rfl) (by rfl) (by rfl) (by exact fun _ _ _ h => h) (by kernel_rfl) hS fun a ha => ?_
        have ha := ha.sel (env' := [(53, .bool (t62 != (0 : Int))), (0, .slice ao1 a0.length cap1), (2, .int .i64 a2), (7, .bool t4), (10, .pointer (some ⟨g41, 0, none⟩))]) (by kernel_rfl)
        rcases Bool.eq_false_or_eq_true (t62 != (0 : Int)) with hb63 | hb63
        · have ha := ha.lit hb63
          have H := ite_t hb63 H
          refine tko 27 ha (by rfl) (by kernel_rfl) (by kernel_rfl) (by kernel_rfl) (by rfl) (by rfl) (by rfl) (by exact fun _ _ _ h => h) hS fun a ha => ?_
          refine tko 28 ha (by rfl) (by kernel_rfl) (by kernel_rfl) (by kernel_rfl) (by rfl) (by rfl) (by rfl) (by exact fun _ _ _ h => h) hS fun a ha => ?_
          refine tko 29 ha (by rfl) (by kernel_rfl) (by kernel_rfl) (by kernel_rfl) (by rfl) (by rfl) (by rfl) (by exact fun _ _ _ h => h) hS fun a ha => ?_
          refine tko 30 ha (by rfl) (by kernel_rfl) (by kernel_rfl) (by kernel_rfl) (by rfl) (by rfl) (by rfl) (by exact fun _ _ _ h => h) hS fun a ha => ?_
          refine tkp 31 3 (.bool true) ha (by rfl) (by kernel_rfl) (by kernel_rfl) (by kernel_rfl) (by rfl) (by rfl) (by rfl) (by exact fun _ _ _ h => h) (by kernel_rfl) hS fun a ha => ?_
          refine dn (by kernel_rfl) ?_
          obtain rfl := Option.some.inj H
          have o1 : Ok [] (blkL ao53 ++ ([g41] ++ (M))) w62.heap.size := Ok.nil _ _
          have o2 : Ok ([g41] ++ (M)) (blkL ao53 ++ ([g41] ++ (M))) w62.heap.size := (Ok.app (fun _ h => .inl (mr (ml h))) (fun _ h => .inl (mr (mr (h)))))
          have f1 := f1.chg (Chg.refl [] _) o1 o2
          have f59 := f59.chg (Chg.refl [] _) o1 o2
          have hBg41 := hBg41.chg (Chg.refl [] _) (fun h => nomatch h)
          have hM : MS ([g41] ++ (M)) w62 := (MS.app (fun x h => hM.chg (Chg.refl [] _) x (mr (ml h))) (fun x h => hM.chg (Chg.refl [] _) x (mr (mr (h)))))
          have hC := hC.trans (Chg.refl [] _) (Ok.nil _ _)
          exact J47 _ _ ao59 cap59 (ha.sel (by kernel_rfl)) f1 f59 hBg41 hC hM
        · have ha := ha.lit hb63
          have H := ite_f hb63 H
          refine tkp 27 0 (.pointer (some ⟨g41, 0, none⟩)) ha (by rfl) (by kernel_rfl) (by kernel_rfl) (by kernel_rfl) (by rfl) (by rfl) (by rfl) (by exact fun _ _ _ h => h) (by kernel_rfl) hS fun a ha => ?_
          refine tkp 28 0 (.pointer (some ⟨g41, 0, none⟩)) ha (by rfl) (by kernel_rfl) (by kernel_rfl) (by kernel_rfl) (by rfl) (by rfl) (by rfl) (by exact fun _ _ _ h => h) (by kernel_rfl) hS fun a ha => ?_
          refine tkp 29 0 (.pointer (some ⟨g41, 0, none⟩)) ha (by rfl) (by kernel_rfl) (by kernel_rfl) (by kernel_rfl) (by rfl) (by rfl) (by rfl) (by exact fun _ _ _ h => h) (by kernel_rfl) hS fun a ha => ?_
          refine ac 30 (by kernel_rfl) (by rfl) fun K64 hK64 => ?_
          obtain ⟨t65, H65, H⟩ := bind_some H
          refine cl ha (by rfl) (by kernel_rfl) (by rfl) (by rfl) (by rfl) (cursor_rest_Bad.walk w62 _ hM g41 t58.2.rest ao59 cap59 f59 hBg41 (mr (ml (List.mem_singleton.2 rfl))) _ H65) ?_
          rintro _ w65 ⟨rfl, hc65, hMn⟩ a ha
          have o1 : Ok [] (blkL ao53 ++ ([g41] ++ (M))) w62.heap.size := Ok.nil _ _
          have o2 : Ok (blkL ao53 ++ ([g41] ++ (M))) (blkL ao53 ++ ([g41] ++ (M))) w62.heap.size := (Ok.app (fun _ h => .inl (ml h)) (Ok.app (fun _ h => .inl (mr (ml h))) (fun _ h => .inl (mr (mr (h))))))
          have f1 := f1.chg hc65 o1 o2
          have f59 := f59.chg hc65 o1 o2
          have hBg41 := hBg41.chg hc65 (fun h => nomatch h)
          have hM : MS (blkL ao53 ++ ([g41] ++ (M))) w65 := (MS.app (fun x h => hM.chg hc65 x (ml h)) (MS.app (fun x h => hM.chg hc65 x (mr (ml h))) (fun x h => hM.chg hc65 x (mr (mr (h))))))
          have hC := hC.trans hc65 (Ok.nil _ _)
          have hS := hS.trans hc65 (Ok.nil _ _)
          refine ae hK64 hS ?_; clear hK64 K64
          refine tkp 31 4 (.bool t65) ha (by rfl) (by kernel_rfl) (by kernel_rfl) (by kernel_rfl) (by rfl) (by rfl) (by rfl) (by exact fun _ _ _ h => h) (by kernel_rfl) hS fun a ha => ?_
          refine dn (by kernel_rfl) ?_
          obtain rfl := Option.some.inj H
          have o1 : Ok [] (blkL ao53 ++ ([g41] ++ (M))) w65.heap.size := Ok.nil _ _
          have o2 : Ok ([g41] ++ (M)) (blkL ao53 ++ ([g41] ++ (M))) w65.heap.size := (Ok.app (fun _ h => .inl (mr (ml h))) (fun _ h => .inl (mr (mr (h)))))
          have f1 := f1.chg (Chg.refl [] _) o1 o2
          have f59 := f59.chg (Chg.refl [] _) o1 o2
          have hBg41 := hBg41.chg (Chg.refl [] _) (fun h => nomatch h)
          have hM : MS ([g41] ++ (M)) w65 := (MS.app (fun x h => hM.chg (Chg.refl [] _) x (mr (ml h))) (fun x h => hM.chg (Chg.refl [] _) x (mr (mr (h)))))
          have hC := hC.trans (Chg.refl [] _) (Ok.nil _ _)
          exact J47 _ _ ao59 cap59 (ha.sel (by kernel_rfl)) f1 f59 hBg41 hC hM
  · have H := ite_f hc38 H
    refine wp_skip ?_
    obtain rfl := Option.some.inj H
    have o1 : Ok [] (blkL ao7 ++ (M)) w6.heap.size := Ok.nil _ _
    have o2 : Ok (M) (blkL ao7 ++ (M)) w6.heap.size := (fun _ h => .inl (mr (h)))
    have f1 := f1.chg (Chg.refl [] _) o1 o2
    have hM : MS (M) w6 := (fun x h => hM.chg (Chg.refl [] _) x (mr (h)))
    have hC := hC.trans (Chg.refl [] _) (Ok.nil _ _)
    exact J9 _ _ _ rfl (ha.sel (by kernel_rfl)) f1 hC hM
end Go.E
