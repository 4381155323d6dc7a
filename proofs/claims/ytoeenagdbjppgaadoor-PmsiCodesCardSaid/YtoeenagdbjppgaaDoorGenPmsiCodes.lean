/- What the functions that the law reaches compute, and the walks that show it. -/
import Derived.Test.YtoeenagdbjppgaaDoorEngO
import Derived.Test.YtoeenagdbjppgaaDoorProg
import Derived.Test.YtoeenagdbjppgaaDoorGenPmsiCodesP3
set_option linter.unusedVariables false
set_option linter.unusedSimpArgs false
namespace Go.E
open Go.RowKit Go.Proofs
def vineryref06_Equal.f (a0 : S_api_Tunnel) (a1 : S_api_Tunnel) : Option (Bool) := (vineryref06_Same.f a0 a1).bind fun t15 => ((if t15 = true then (if (a0.Leaf == a1.Leaf) = true then some (a0.Label == a1.Label : Bool) else some (false : Bool)) else some (false : Bool))).bind fun s17 => some ((s17 : Bool))
set_option maxRecDepth 100000 in
theorem vineryref06_Equal.walk (w : World) (M : List Nat) (hM : MS M w) (a0 : S_api_Tunnel) (ao1 : Option Addr) (cap1 : Nat) (f1 : RSl (rInt .u8) 5 w M ao1 cap1 a0.Id) (a1 : S_api_Tunnel) (ao2 : Option Addr) (cap2 : Nat) (f2 : RSl (rInt .u8) 5 w M ao2 cap2 a1.Id) (r : Bool) (H : vineryref06_Equal.f a0 a1 = some r) :
    To Tryd.prog 19 [.agg (cS_api_Tunnel a0 ao1 cap1).toArray, .agg (cS_api_Tunnel a1 ao2 cap2).toArray] w fun v w' => v = .bool r ∧ Chg [] w w' ∧ MS (M) w' := by
 unfold vineryref06_Equal.f at H
 refine ent Tryd.func19 rfl [(0, .agg (cS_api_Tunnel a0 ao1 cap1).toArray), (1, .agg (cS_api_Tunnel a1 ao2 cap2).toArray)] rfl (by rfl) fun a ha => ?_
 have hC : Chg [] w w := Chg.refl _ _
 refine wp_seq_k fun K3 hK3 => ?_
 refine wp_region_lit ?_
 refine bx (cs := (cS_api_Tunnel a0 ao1 cap1)) ha rfl rfl rfl rfl rfl fun a w4 g5 hN6 ha => ?_
 have hn8 := hN6.notin hM
 have o1 : Ok [] (M) w.heap.size := Ok.nil _ _
 have o2 : Ok (M) (M) w.heap.size := (Ok.refl _ _)
 have f1 := f1.chg hN6.chg o1 o2
 have f2 := f2.chg hN6.chg o1 o2
 have hM : MS (M) w4 := (hM.chg hN6.chg)
 have hC := hC.trans hN6.chg (Ok.nil _ _)
 have hE7 : ∀ j v, (cS_api_Tunnel a0 ao1 cap1)[j]? = some v → w4.cell? ⟨g5, 0 + j, none⟩ = some v := Box.cells (New.box hN6)
 refine bx (cs := (cS_api_Tunnel a1 ao2 cap2)) ha rfl rfl rfl rfl rfl fun a w9 g10 hN11 ha => ?_
 have hn13 := hN11.notin hM
 have o1 : Ok [] (M) w4.heap.size := Ok.nil _ _
 have o2 : Ok (M) (M) w4.heap.size := (Ok.refl _ _)
 have f2 := f2.chg hN11.chg o1 o2
 have f1 := f1.chg hN11.chg o1 o2
 have q_hn8 : g5 ∉ M := fun h => (o2 g5 h).elim hn8 (fun h => absurd (lt_cell (hE7 0 _ rfl)) (Nat.not_lt.2 h))
 have hE7 : ∀ j v, (cS_api_Tunnel a0 ao1 cap1)[j]? = some v → w9.cell? ⟨g5, 0 + j, none⟩ = some v := fun j v hv => (cell_keep hN11.chg o1 hn8 (hE7 j v hv))
 have hn8 := q_hn8
 have hM : MS (M) w9 := (hM.chg hN11.chg)
 have hC := hC.trans hN11.chg (Ok.nil _ _)
 have hE12 : ∀ j v, (cS_api_Tunnel a1 ao2 cap2)[j]? = some v → w9.cell? ⟨g10, 0 + j, none⟩ = some v := Box.cells (New.box hN11)
 refine seg ha 1 [(2, .pointer (some ⟨g5, 0, none⟩)), (3, .pointer (some ⟨g10, 0, none⟩))] (by kernel_rfl) fun a ha => ?_
 refine hK3 _ _ ?_; try clear hK3 K3
 refine wp_seq_k fun K14 hK14 => ?_
 refine wp_region_lit ?_
 refine ldA (cs := (cS_api_Tunnel a0 ao1 cap1)) ha rfl (by kernel_rfl) rfl rfl rfl (cells_sub hE7 (all := (cS_api_Tunnel a0 ao1 cap1)) [] [] (by kernel_rfl)) fun a ha => ?_
 refine ldA (cs := (cS_api_Tunnel a1 ao2 cap2)) ha rfl (by kernel_rfl) rfl rfl rfl (cells_sub hE12 (all := (cS_api_Tunnel a1 ao2 cap2)) [] [] (by kernel_rfl)) fun a ha => ?_
 obtain ⟨t15, H15, H⟩ := bind_some H
 refine cl ha (by rfl) (by kernel_rfl) (by rfl) (by rfl) (by rfl) (vineryref06_Same.walk w9 _ hM a0 ao1 cap1 f1 a1 ao2 cap2 f2 _ H15) ?_
 rintro _ w15 ⟨rfl, hc15, hMn⟩ a ha
 have o1 : Ok [] (M) w9.heap.size := Ok.nil _ _
 have o2 : Ok (M) (M) w9.heap.size := (Ok.refl _ _)
 have f1 := f1.chg hc15 o1 o2
 have f2 := f2.chg hc15 o1 o2
 have q_hn8 : g5 ∉ M := fun h => (o2 g5 h).elim hn8 (fun h => absurd (lt_cell (hE7 0 _ rfl)) (Nat.not_lt.2 h))
 have hE7 : ∀ j v, (cS_api_Tunnel a0 ao1 cap1)[j]? = some v → w15.cell? ⟨g5, 0 + j, none⟩ = some v := fun j v hv => (cell_keep hc15 o1 hn8 (hE7 j v hv))
 have hn8 := q_hn8
 have q_hn13 : g10 ∉ M := fun h => (o2 g10 h).elim hn13 (fun h => absurd (lt_cell (hE12 0 _ rfl)) (Nat.not_lt.2 h))
 have hE12 : ∀ j v, (cS_api_Tunnel a1 ao2 cap2)[j]? = some v → w15.cell? ⟨g10, 0 + j, none⟩ = some v := fun j v hv => (cell_keep hc15 o1 hn13 (hE12 j v hv))
 have hn13 := q_hn13
 have hM : MS (M) w15 := (hM.chg hc15)
 have hC := hC.trans hc15 (Ok.nil _ _)
 refine seg ha 1 [(2, .pointer (some ⟨g5, 0, none⟩)), (3, .pointer (some ⟨g10, 0, none⟩)), (5, .bool t15)] (by kernel_rfl) fun a ha => ?_
 refine hK14 _ _ ?_; try clear hK14 K14
 refine wp_seq_k fun K16 hK16 => ?_
 refine wp_region_lit ?_
 obtain ⟨s17, H17, H⟩ := bind_some H
 have J17 : ∀ (a : Act) (w17 : World), Has a Tryd.f19.ntmps [(4, .bool s17)] → (Chg [] w w17) → (MS (M) w17) → K16 a w17 := by
  intro a w17 ha hC hM
  refine hK16 _ _ ?_; try clear hK16 K16
  refine wp_ret ?_
  try simp only [Exit.then, Exit.inBlock]
  obtain rfl := Option.some.inj H
  refine rt1 ha rfl rfl ?_
  exact ⟨rfl, hC, hM⟩
 have H := H17
 refine seg ha 2 [(10, .bool t15), (2, .pointer (some ⟨g5, 0, none⟩)), (3, .pointer (some ⟨g10, 0, none⟩))] (by kernel_rfl) fun a ha => ?_
 rcases Bool.eq_false_or_eq_true (t15) with hb18 | hb18
 ·have ha := ha.lit hb18
  have H := ite_t hb18 H
  refine sgh ha 1 [2] [(2, .pointer (some ⟨g5, 0, none⟩)), (3, .pointer (some ⟨g10, 0, none⟩)), (10, .bool true), (11, .pointer (some ⟨g5, 0, none⟩))] (by kernel_rfl) fun a ha => ?_
  refine ld ha rfl (by kernel_rfl) rfl rfl rfl (hE7 0 (.bool a0.Leaf) (by kernel_rfl)) fun a ha => ?_
  refine sgh ha 1 [2] [(2, .pointer (some ⟨g5, 0, none⟩)), (3, .pointer (some ⟨g10, 0, none⟩)), (10, .bool true), (12, .bool a0.Leaf), (13, .pointer (some ⟨g10, 0, none⟩))] (by kernel_rfl) fun a ha => ?_
  refine ld ha rfl (by kernel_rfl) rfl rfl rfl (hE12 0 (.bool a1.Leaf) (by kernel_rfl)) fun a ha => ?_
  refine sgh ha 3 [2, 3, 0] [(17, .bool (a0.Leaf == a1.Leaf)), (2, .pointer (some ⟨g5, 0, none⟩)), (3, .pointer (some ⟨g10, 0, none⟩))] (by kernel_rfl) fun a ha => ?_
  rcases Bool.eq_false_or_eq_true (a0.Leaf == a1.Leaf) with hb19 | hb19
  ·have ha := ha.lit hb19
   have H := ite_t hb19 H
   refine sgh ha 1 [2] [(3, .pointer (some ⟨g10, 0, none⟩)), (17, .bool true), (18, .pointer (some ⟨g5, 0 + 2, none⟩))] (by kernel_rfl) fun a ha => ?_
   refine ld ha rfl (by kernel_rfl) rfl rfl rfl (hE7 2 (.int .i64 a0.Label) (by kernel_rfl)) fun a ha => ?_
   refine sgh ha 1 [2] [(17, .bool true), (19, .int .i64 a0.Label), (20, .pointer (some ⟨g10, 0 + 2, none⟩))] (by kernel_rfl) fun a ha => ?_
   refine ld ha rfl (by kernel_rfl) rfl rfl rfl (hE12 2 (.int .i64 a1.Label) (by kernel_rfl)) fun a ha => ?_
   refine sgh ha 3 [2, 3, 0] [(4, .bool (a0.Label == a1.Label))] (by kernel_rfl) fun a ha => ?_
   obtain rfl := Option.some.inj H
   exact J17 _ _ (ha.sel (by kernel_rfl)) hC hM
  ·have ha := ha.lit hb19
   have H := ite_f hb19 H
   refine sgh ha 7 [1, 1, 1, 1, 1, 4, 0] [(4, .bool false)] (by kernel_rfl) fun a ha => ?_
   obtain rfl := Option.some.inj H
   exact J17 _ _ (ha.sel (by kernel_rfl)) hC hM
 ·have ha := ha.lit hb18
  have H := ite_f hb18 H
  refine sgh ha 14 [1, 1, 1, 1, 1, 4, 0, 1, 1, 1, 1, 1, 4, 0] [(4, .bool false)] (by kernel_rfl) fun a ha => ?_
  obtain rfl := Option.some.inj H
  exact J17 _ _ (ha.sel (by kernel_rfl)) hC hM

theorem Owned.go (w : World) (M : List Nat) (hM : MS M w) (gr : Nat) (rows : List Row) (hR : Rows w gr rows) (hl : rows.length ≤ 1000) (h0 : Cells w rows fun _ _ => True) :
    To Tryd.prog 20 [.slice (some ⟨gr, 0, none⟩) rows.length rows.length] w fun v w' => v = .bool true ∧ Chg (gsOf rows) w w' ∧ MS M w' ∧ Cells w' rows (fun i cur => ∃ c, cur = List.replicate c (.int .u8 (IntKind.u8.wrap ((i : Int) + 1)))) := by
  refine ent Tryd.func20 rfl [(0, .slice (some ⟨gr, 0, none⟩) rows.length rows.length)] rfl rfl fun a ha => ?_
  refine wp_seq_k fun K hK => ?_
  refine wp_region_lit ?_
  refine seg ha 1 [(0, .slice (some ⟨gr, 0, none⟩) rows.length rows.length)] (by kernel_rfl) fun a ha => ?_
  refine hK _ _ ?_; clear hK K
  refine wp_seq_k fun KA hKA => ?_
  refine wp_seq_k fun K hK => ?_
  refine wp_region_lit ?_
  refine seg ha 1 [(0, .slice (some ⟨gr, 0, none⟩) rows.length rows.length), (3, .int .i64 0)] (by kernel_rfl) fun a ha => ?_
  refine hK _ _ ?_; clear hK K
  have J1 : ∀ (a : Act) (w1 : World), Has a Tryd.f20.ntmps [(0, .slice (some ⟨gr, 0, none⟩) rows.length rows.length)] → Chg (gsOf rows) w w1 → Cells w1 rows (fun i cur => cur = List.replicate cur.length (.int .u8 (IntKind.u8.wrap ((i : Int) + 1)))) → KA a w1 := by
    intro a w1 ha hC hS
    refine hKA _ _ ?_
    have ewb : ∀ (j : Nat), j < rows.length → IntKind.u8.wrap (IntKind.i64.wrap ((j : Int) + 1)) = IntKind.u8.wrap ((j : Int) + 1) := fun j hj => by
      have : IntKind.i64.wrap ((j : Int) + 1) = (j : Int) + 1 := by rw [IntKind.wrap_i64]; omega
      rw [this]
    have hm : maxLen = 9223372036854775807 := rfl
    refine wp_seq_k fun KB hKB => ?_
    refine wp_seq_k fun K hK => ?_
    refine wp_region_lit ?_
    refine seg ha 1 [(0, .slice (some ⟨gr, 0, none⟩) rows.length rows.length), (6, .int .i64 0)] (by kernel_rfl) fun a ha => ?_
    refine hK _ _ ?_; clear hK K
    refine wp_block ?_
    refine wp_loop_ghost (fun kk a w1 => ∃ (i : Nat), kk + i = rows.length + 1 ∧ i ≤ rows.length ∧ Has a Tryd.f20.ntmps [(0, .slice (some ⟨gr, 0, none⟩) rows.length rows.length), (6, .int .i64 (i : Int))] ∧ Chg (gsOf rows) w w1 ∧ Cells w1 rows (fun j cur => cur = List.replicate cur.length (.int .u8 (IntKind.u8.wrap ((j : Int) + 1))))) (rows.length + 1) ?_ ?_
    · exact ⟨0, by omega, by omega, ha, hC, hS⟩
    · rintro kk a w1 ⟨i, hk, hi, ha, hC, hS⟩
      have hR1 := hR.keep hC
      refine wp_seq_k fun K1 hK1 => ?_
      refine wp_seq_k fun K2 hK2 => ?_
      refine wp_region_lit ?_
      refine seg ha 4 [(0, .slice (some ⟨gr, 0, none⟩) rows.length rows.length), (6, .int .i64 (i : Int)), (40, .bool (decide ((i : Int) < (rows.length : Int))))] (by kernel_rfl) fun a ha => ?_
      refine hK2 _ _ ?_; clear hK2 K2
      refine cnd ha rfl (fun hc => ?_) (fun hc => ?_)
      · refine wp_skip ?_
        refine hK1 _ _ ?_; clear hK1 K1
        have hlt : i < rows.length := by simpa using hc
        obtain ⟨r, hr⟩ : ∃ r, rows[i]? = some r := ⟨rows[i], by simp [hlt]⟩
        obtain ⟨hr1, hr2, hr3⟩ := hR.cap r (List.mem_of_getElem? hr)
        refine wp_seq_k fun K3 hK3 => ?_
        refine wp_block ?_
        refine wp_seq_k fun K4 hK4 => ?_
        refine drq0 (fun w' => Chg [] w1 w') (by kernel_rfl) (by kernel_rfl) (fun _ h => h) ?_
        have hrow : (rows.map Row.v)[i]? = some r.v := by simp [hr]
        refine qp 0 (.slice (some ⟨gr, 0, none⟩) rows.length rows.length) ha rfl rfl rfl (by kernel_rfl) fun a ha => ?_
        refine qp 0 (.int .i64 (i : Int)) ha rfl rfl rfl (by kernel_rfl) fun a ha => ?_
        refine qv ha rfl rfl rfl (fun w' _ => ixa (T := 25) ha (by kernel_rfl) (by kernel_rfl) rfl rfl (by omega) (by omega) w') fun a ha => ?_
        refine qv (v := r.v) ha rfl rfl rfl (fun w' hs => ld_run ha rfl (by kernel_rfl) ((Box.chg hR1.row hs (fun h => nomatch h)).cell' (o := i) (by simp) hrow)) fun a ha => ?_
        refine qp 0 (.slice (some ⟨gr, 0, none⟩) rows.length rows.length) ha rfl rfl rfl (by kernel_rfl) fun a ha => ?_
        refine qp 0 (.int .i64 (i : Int)) ha rfl rfl rfl (by kernel_rfl) fun a ha => ?_
        refine qv ha rfl rfl rfl (fun w' _ => ixa (T := 25) ha (by kernel_rfl) (by kernel_rfl) rfl rfl (by omega) (by omega) w') fun a ha => ?_
        refine qv (v := r.v) ha rfl rfl rfl (fun w' hs => ld_run ha rfl (by kernel_rfl) ((Box.chg hR1.row hs (fun h => nomatch h)).cell' (o := i) (by simp) hrow)) fun a ha => ?_
        refine qp 0 (.int .i64 (r.cap : Int)) ha rfl rfl rfl (by kernel_rfl) fun a ha => ?_
        refine qv (v := .slice r.ao r.cap r.cap) ha rfl rfl rfl (fun w' _ => slx_run (T := 5) (s := 1) ha (by kernel_rfl) (by kernel_rfl) rfl rfl w') fun a ha => ?_
        refine qp 0 (.slice r.ao r.cap r.cap) ha rfl rfl rfl (by kernel_rfl) fun a ha => ?_
        refine wpQuiet_nil ?_
        intro w2 hc2
        refine wpl_end ?_
        have ha := ha.sel (env' := [(0, .slice (some ⟨gr, 0, none⟩) rows.length rows.length), (6, .int .i64 (i : Int)), (7, .slice r.ao r.cap r.cap)]) (by kernel_rfl)
        refine hK4 _ _ ?_; clear hK4 K4
        have hC2 := hC.trans hc2 (Ok.nil _ _)
        have hS2 : Cells w2 rows (fun j cur => cur = List.replicate cur.length (.int .u8 (IntKind.u8.wrap ((j : Int) + 1)))) := fun j q g h1 h2 => by
          obtain ⟨cur, c1, c2, c3⟩ := hS j q g h1 h2
          exact ⟨cur, c1.chg hc2 (by simp), c2, c3⟩
        refine wp_seq_k fun K4 hK4 => ?_
        refine wp_region_lit ?_
        refine seg ha 1 [(0, .slice (some ⟨gr, 0, none⟩) rows.length rows.length), (6, .int .i64 (i : Int)), (7, .slice r.ao r.cap r.cap), (8, .int .i64 0)] (by kernel_rfl) fun a ha => ?_
        refine hK4 _ _ ?_; clear hK4 K4
        refine wp_block ?_
        refine wp_loop_ghost (fun kk a w3 => ∃ (k : Nat), kk + k = r.cap + 1 ∧ k ≤ r.cap ∧ w3 = w2 ∧ Has a Tryd.f20.ntmps [(0, .slice (some ⟨gr, 0, none⟩) rows.length rows.length), (6, .int .i64 (i : Int)), (7, .slice r.ao r.cap r.cap), (8, .int .i64 (k : Int))]) (r.cap + 1) ?_ ?_
        · exact ⟨0, by omega, by omega, rfl, ha⟩
        · rintro kk2 a w3 ⟨k, hkk, hkc, rfl, ha⟩
          refine wp_seq_k fun K5 hK5 => ?_
          refine wp_seq_k fun K6 hK6 => ?_
          refine wp_region_lit ?_
          refine seg ha 4 [(0, .slice (some ⟨gr, 0, none⟩) rows.length rows.length), (6, .int .i64 (i : Int)), (7, .slice r.ao r.cap r.cap), (8, .int .i64 (k : Int)), (56, .bool (decide ((k : Int) < (r.cap : Int))))] (by kernel_rfl) fun a ha => ?_
          refine hK6 _ _ ?_; clear hK6 K6
          refine cnd ha rfl (fun hc => ?_) (fun hc => ?_)
          · refine wp_skip ?_
            refine hK5 _ _ ?_; clear hK5 K5
            have hkl : k < r.cap := by simpa using hc
            obtain ⟨g, hg⟩ : ∃ g, r.g = some g := by
              cases hgg : r.g with
              | none => have := hr3 hgg; omega
              | some g => exact ⟨g, rfl⟩
            have hao : r.ao = some ⟨g, 0, none⟩ := by simp [Row.ao, hg]
            rw [hao] at ha
            obtain ⟨cur, c1, c2, c3⟩ := hS2 i r g hr hg
            refine wp_seq_k fun K6 hK6 => ?_
            refine wp_block ?_
            refine wp_seq_k fun K7 hK7 => ?_
            refine wp_region_lit ?_
            refine seg ha 2 [(0, .slice (some ⟨gr, 0, none⟩) rows.length rows.length), (6, .int .i64 (i : Int)), (7, .slice (some ⟨g, 0, none⟩) r.cap r.cap), (8, .int .i64 (k : Int)), (59, .slice (some ⟨g, 0, none⟩) r.cap r.cap), (60, .int .i64 (k : Int))] (by kernel_rfl) fun a ha => ?_
            refine hop ha rfl rfl rfl (ixa (T := 5) ha (by kernel_rfl) (by kernel_rfl) rfl rfl (by omega) (by omega) _) fun a ha => ?_
            refine ld (v := .int .u8 (IntKind.u8.wrap ((i : Int) + 1))) ha rfl (by kernel_rfl) rfl rfl rfl (c1.cell' (o := k) (by rw [Nat.zero_add, Int.toNat_natCast]) (by rw [c3, List.getElem?_replicate, if_pos (by omega)])) fun a ha => ?_
            refine seg ha 4 [(0, .slice (some ⟨gr, 0, none⟩) rows.length rows.length), (6, .int .i64 (i : Int)), (7, .slice (some ⟨g, 0, none⟩) r.cap r.cap), (8, .int .i64 (k : Int)), (66, .bool (IntKind.u8.wrap ((i : Int) + 1) != IntKind.u8.wrap (IntKind.i64.wrap ((i : Int) + 1))))] (by kernel_rfl) fun a ha => ?_
            refine hK7 _ _ ?_; clear hK7 K7
            refine cnd ha rfl (fun hx => ?_) (fun hx => ?_)
            · rw [ewb i hlt] at hx
              simp at hx
            · refine wp_skip ?_
              refine hK6 _ _ ?_; clear hK6 K6
              refine wp_region_lit ?_
              have e5 : IntKind.i64.wrap ((k : Int) + 1) = ((k + 1 : Nat) : Int) := by rw [IntKind.wrap_i64]; omega
              refine seg ha 3 [(0, .slice (some ⟨gr, 0, none⟩) rows.length rows.length), (6, .int .i64 (i : Int)), (7, .slice (some ⟨g, 0, none⟩) r.cap r.cap), (8, .int .i64 (IntKind.i64.wrap ((k : Int) + 1)))] (by kernel_rfl) fun a ha => ?_
              rw [e5, ← hao] at ha
              exact ⟨kk2 - 1, by omega, k + 1, by omega, by omega, rfl, ha⟩
          · refine wp_exit ?_
            simp only [Exit.then, Exit.inBlock, ↓reduceIte, Nat.reduceEqDiff]
            refine hK3 _ _ ?_
            refine wp_region_lit ?_
            have e3 : IntKind.i64.wrap ((i : Int) + 1) = ((i + 1 : Nat) : Int) := by rw [IntKind.wrap_i64]; omega
            refine seg ha 3 [(0, .slice (some ⟨gr, 0, none⟩) rows.length rows.length), (6, .int .i64 (IntKind.i64.wrap ((i : Int) + 1)))] (by kernel_rfl) fun a ha => ?_
            rw [e3] at ha
            exact ⟨kk - 1, by omega, i + 1, by omega, by omega, ha, hC2, hS2⟩
      · refine wp_exit ?_
        simp only [Exit.then, Exit.inBlock, ↓reduceIte, Nat.reduceEqDiff]
        refine hKB _ _ ?_
        refine wp_seq_k fun K hK => ?_
        refine wp_region_lit ?_
        refine seg ha 1 [(2, .bool true)] (by kernel_rfl) fun a ha => ?_
        refine hK _ _ ?_; clear hK K
        refine wp_ret ?_
        refine rt1 ha rfl rfl ⟨rfl, hC, hM.chg hC, fun j q g h1 h2 => ?_⟩
        obtain ⟨cur, c1, c2, c3⟩ := hS j q g h1 h2
        exact ⟨cur, c1, c2, _, c3⟩
  refine wp_block ?_
  refine wp_loop_ghost (fun kk a w1 => ∃ (i : Nat), kk + i = rows.length + 1 ∧ i ≤ rows.length ∧ Has a Tryd.f20.ntmps [(0, .slice (some ⟨gr, 0, none⟩) rows.length rows.length), (3, .int .i64 (i : Int))] ∧ Chg (gsOf rows) w w1 ∧ Cells w1 rows (fun j cur => j < i → cur = List.replicate cur.length (.int .u8 (IntKind.u8.wrap ((j : Int) + 1))))) (rows.length + 1) ?_ ?_
  · exact ⟨0, by omega, by omega, ha, Chg.refl _ _, fun i r g h1 h2 => by
      obtain ⟨cur, c1, c2, _⟩ := h0 i r g h1 h2
      exact ⟨cur, c1, c2, fun h => absurd h (Nat.not_lt_zero _)⟩⟩
  · rintro kk a w1 ⟨i, hk, hi, ha, hC, hS⟩
    have hR1 := hR.keep hC
    refine wp_seq_k fun K1 hK1 => ?_
    refine wp_seq_k fun K2 hK2 => ?_
    refine wp_region_lit ?_
    refine seg ha 4 [(0, .slice (some ⟨gr, 0, none⟩) rows.length rows.length), (3, .int .i64 (i : Int)), (12, .bool (decide ((i : Int) < (rows.length : Int))))] (by kernel_rfl) fun a ha => ?_
    refine hK2 _ _ ?_; clear hK2 K2
    refine cnd ha rfl (fun hc => ?_) (fun hc => ?_)
    · refine wp_skip ?_
      refine hK1 _ _ ?_; clear hK1 K1
      have hlt : i < rows.length := by simpa using hc
      obtain ⟨r, hr⟩ : ∃ r, rows[i]? = some r := ⟨rows[i], by simp [hlt]⟩
      obtain ⟨hr1, hr2, hr3⟩ := hR.cap r (List.mem_of_getElem? hr)
      refine wp_seq_k fun K3 hK3 => ?_
      refine wp_block ?_
      refine wp_seq_k fun K4 hK4 => ?_
      refine drq0 (fun w' => Chg [] w1 w') (by kernel_rfl) (by kernel_rfl) (fun _ h => h) ?_
      have hrow : (rows.map Row.v)[i]? = some r.v := by simp [hr]
      refine qp 0 (.slice (some ⟨gr, 0, none⟩) rows.length rows.length) ha rfl rfl rfl (by kernel_rfl) fun a ha => ?_
      refine qp 0 (.int .i64 (i : Int)) ha rfl rfl rfl (by kernel_rfl) fun a ha => ?_
      refine qv ha rfl rfl rfl (fun w' _ => ixa (T := 25) ha (by kernel_rfl) (by kernel_rfl) rfl rfl (by omega) (by omega) w') fun a ha => ?_
      refine qv (v := r.v) ha rfl rfl rfl (fun w' hs => ld_run ha rfl (by kernel_rfl) ((Box.chg hR1.row hs (fun h => nomatch h)).cell' (o := i) (by simp) hrow)) fun a ha => ?_
      refine qp 0 (.slice (some ⟨gr, 0, none⟩) rows.length rows.length) ha rfl rfl rfl (by kernel_rfl) fun a ha => ?_
      refine qp 0 (.int .i64 (i : Int)) ha rfl rfl rfl (by kernel_rfl) fun a ha => ?_
      refine qv ha rfl rfl rfl (fun w' _ => ixa (T := 25) ha (by kernel_rfl) (by kernel_rfl) rfl rfl (by omega) (by omega) w') fun a ha => ?_
      refine qv (v := r.v) ha rfl rfl rfl (fun w' hs => ld_run ha rfl (by kernel_rfl) ((Box.chg hR1.row hs (fun h => nomatch h)).cell' (o := i) (by simp) hrow)) fun a ha => ?_
      refine qp 0 (.int .i64 (r.cap : Int)) ha rfl rfl rfl (by kernel_rfl) fun a ha => ?_
      refine qv (v := .slice r.ao r.cap r.cap) ha rfl rfl rfl (fun w' _ => slx_run (T := 5) (s := 1) ha (by kernel_rfl) (by kernel_rfl) rfl rfl w') fun a ha => ?_
      refine qp 0 (.slice r.ao r.cap r.cap) ha rfl rfl rfl (by kernel_rfl) fun a ha => ?_
      refine wpQuiet_nil ?_
      intro w2 hc2
      refine wpl_end ?_
      have ha := ha.sel (env' := [(0, .slice (some ⟨gr, 0, none⟩) rows.length rows.length), (3, .int .i64 (i : Int)), (4, .slice r.ao r.cap r.cap)]) (by kernel_rfl)
      refine hK4 _ _ ?_; clear hK4 K4
      have hC2 := hC.trans hc2 (Ok.nil _ _)
      have hS2 : Cells w2 rows (fun j cur => j < i → cur = List.replicate cur.length (.int .u8 (IntKind.u8.wrap ((j : Int) + 1)))) := fun j q g h1 h2 => by
        obtain ⟨cur, c1, c2, c3⟩ := hS j q g h1 h2
        exact ⟨cur, c1.chg hc2 (by simp), c2, c3⟩
      refine wp_seq_k fun K4 hK4 => ?_
      refine wp_region_lit ?_
      refine seg ha 1 [(0, .slice (some ⟨gr, 0, none⟩) rows.length rows.length), (3, .int .i64 (i : Int)), (4, .slice r.ao r.cap r.cap), (5, .int .i64 0)] (by kernel_rfl) fun a ha => ?_
      refine hK4 _ _ ?_; clear hK4 K4
      have ewb : ∀ (j : Nat), j < rows.length → IntKind.u8.wrap (IntKind.i64.wrap ((j : Int) + 1)) = IntKind.u8.wrap ((j : Int) + 1) := fun j hj => by
        have : IntKind.i64.wrap ((j : Int) + 1) = (j : Int) + 1 := by rw [IntKind.wrap_i64]; omega
        rw [this]
      have hm : maxLen = 9223372036854775807 := rfl
      refine wp_block ?_
      refine wp_loop_ghost (fun kk a w3 => ∃ (k : Nat), kk + k = r.cap + 1 ∧ k ≤ r.cap ∧ Has a Tryd.f20.ntmps [(0, .slice (some ⟨gr, 0, none⟩) rows.length rows.length), (3, .int .i64 (i : Int)), (4, .slice r.ao r.cap r.cap), (5, .int .i64 (k : Int))] ∧ Chg (gsOf rows) w w3 ∧
        Cells w3 rows (fun j cur => (j < i → cur = List.replicate cur.length (.int .u8 (IntKind.u8.wrap ((j : Int) + 1)))) ∧ (j = i → cur.take k = List.replicate k (.int .u8 (IntKind.u8.wrap ((j : Int) + 1)))))) (r.cap + 1) ?_ ?_
      · exact ⟨0, by omega, by omega, ha, hC2, fun j q g h1 h2 => by
          obtain ⟨cur, c1, c2, c3⟩ := hS2 j q g h1 h2
          exact ⟨cur, c1, c2, c3, fun _ => by simp⟩⟩
      · rintro kk2 a w3 ⟨k, hkk, hkc, ha, hC3, hS3⟩
        refine wp_seq_k fun K5 hK5 => ?_
        refine wp_seq_k fun K6 hK6 => ?_
        refine wp_region_lit ?_
        refine seg ha 4 [(0, .slice (some ⟨gr, 0, none⟩) rows.length rows.length), (3, .int .i64 (i : Int)), (4, .slice r.ao r.cap r.cap), (5, .int .i64 (k : Int)), (28, .bool (decide ((k : Int) < (r.cap : Int))))] (by kernel_rfl) fun a ha => ?_
        refine hK6 _ _ ?_; clear hK6 K6
        refine cnd ha rfl (fun hc => ?_) (fun hc => ?_)
        · refine wp_skip ?_
          refine hK5 _ _ ?_; clear hK5 K5
          have hkl : k < r.cap := by simpa using hc
          obtain ⟨g, hg⟩ : ∃ g, r.g = some g := by
            cases hgg : r.g with
            | none => have := hr3 hgg; omega
            | some g => exact ⟨g, rfl⟩
          have hao : r.ao = some ⟨g, 0, none⟩ := by simp [Row.ao, hg]
          rw [hao] at ha
          obtain ⟨cur, c1, c2, c3, c4⟩ := hS3 i r g hr hg
          refine wp_seq_k fun K6 hK6 => ?_
          refine wp_block ?_
          refine wp_region_lit ?_
          refine seg ha 5 [(0, .slice (some ⟨gr, 0, none⟩) rows.length rows.length), (3, .int .i64 (i : Int)), (4, .slice (some ⟨g, 0, none⟩) r.cap r.cap), (5, .int .i64 (k : Int)), (31, .slice (some ⟨g, 0, none⟩) r.cap r.cap), (32, .int .i64 (k : Int)), (35, .int .u8 (IntKind.u8.wrap (IntKind.i64.wrap ((i : Int) + 1))))] (by kernel_rfl) fun a ha => ?_
          refine hop ha rfl rfl rfl (ixa (T := 5) ha (by kernel_rfl) (by kernel_rfl) rfl rfl (by omega) (by omega) _) fun a ha => ?_
          refine st (cs := cur) (g := g) (o' := k) ha rfl rfl (by simp) (by kernel_rfl) rfl rfl c1 (by omega) fun a w4 ha hB4 hc4 _ => ?_
          refine wpl_end ?_
          have ha := ha.sel (env' := [(0, .slice (some ⟨gr, 0, none⟩) rows.length rows.length), (3, .int .i64 (i : Int)), (4, .slice (some ⟨g, 0, none⟩) r.cap r.cap), (5, .int .i64 (k : Int))]) (by kernel_rfl)
          refine hK6 _ _ ?_; clear hK6 K6
          refine wp_region_lit ?_
          have e5 : IntKind.i64.wrap ((k : Int) + 1) = ((k + 1 : Nat) : Int) := by rw [IntKind.wrap_i64]; omega
          refine seg ha 3 [(0, .slice (some ⟨gr, 0, none⟩) rows.length rows.length), (3, .int .i64 (i : Int)), (4, .slice (some ⟨g, 0, none⟩) r.cap r.cap), (5, .int .i64 (IntKind.i64.wrap ((k : Int) + 1)))] (by kernel_rfl) fun a ha => ?_
          rw [e5, ← hao] at ha
          refine ⟨kk2 - 1, by omega, k + 1, by omega, by omega, ha, hC3.trans hc4 (Ok.one (.inl (gs_mem hr hg))), fun j q g2 h1 h2 => ?_⟩
          by_cases hji : j = i
          · subst hji
            have hq : q = r := Option.some.inj (h1.symm.trans hr)
            subst hq
            have hgg : g2 = g := Option.some.inj (h2.symm.trans hg)
            subst hgg
            refine ⟨_, hB4, by simp [c2], fun h => absurd h (Nat.lt_irrefl _), fun _ => ?_⟩
            rw [ewb j hlt, List.replicate_succ', ← c4 rfl]
            rw [List.take_add_one]
            have hklen : k < cur.length := by omega
            rw [List.take_set_of_le (Nat.le_refl _)]
            simp [hklen]
          · have hne : g2 ≠ g := fun e => hji (hR.one j i q r g h1 hr (e ▸ h2) hg)
            obtain ⟨cu, b1, b2, b3, b4⟩ := hS3 j q g2 h1 h2
            exact ⟨cu, b1.chg hc4 (by simpa using hne), b2, b3, fun e => absurd e hji⟩
        · refine wp_exit ?_
          simp only [Exit.then, Exit.inBlock, ↓reduceIte, Nat.reduceEqDiff]
          have hkc' : k = r.cap := by
            have : ¬ k < r.cap := by simpa using hc
            omega
          subst hkc'
          refine hK3 _ _ ?_
          refine wp_region_lit ?_
          have e3 : IntKind.i64.wrap ((i : Int) + 1) = ((i + 1 : Nat) : Int) := by rw [IntKind.wrap_i64]; omega
          refine seg ha 3 [(0, .slice (some ⟨gr, 0, none⟩) rows.length rows.length), (3, .int .i64 (IntKind.i64.wrap ((i : Int) + 1)))] (by kernel_rfl) fun a ha => ?_
          rw [e3] at ha
          refine ⟨kk - 1, by omega, i + 1, by omega, by omega, ha, hC3, fun j q g2 h1 h2 => ?_⟩
          obtain ⟨cu, b1, b2, b3, b4⟩ := hS3 j q g2 h1 h2
          refine ⟨cu, b1, b2, fun hj => ?_⟩
          by_cases hji : j = i
          · have hq : q = r := by subst hji; exact Option.some.inj (h1.symm.trans hr)
            subst hq
            have := b4 hji
            rw [← b2, List.take_length] at this
            exact this
          · exact b3 (by omega)
    · refine wp_exit ?_
      simp only [Exit.then, Exit.inBlock, ↓reduceIte, Nat.reduceEqDiff]
      have hge : i = rows.length := by
        have : ¬ i < rows.length := by simpa using hc
        omega
      subst hge
      exact J1 _ _ (ha.sel (by kernel_rfl)) hC (fun j q g h1 h2 => by
        obtain ⟨cur, c1, c2, c3⟩ := hS j q g h1 h2
        exact ⟨cur, c1, c2, c3 (List.getElem?_eq_some_iff.1 h1).1⟩)
theorem Owned.call (w : World) (M : List Nat) (hM : MS M w) (gr : Nat) (l : List (Option Addr × Nat × Nat)) (gs : List Nat) (h : ∀ q ∈ l, RowOk w q) (hp : l.Pairwise (fun p q => ∀ x ∈ blkL p.1, x ∉ blkL q.1)) (ho : ∀ q ∈ l, gr ∉ blkL q.1) (hB : Box w gr (l.map fun q => .slice q.1 q.2.1 q.2.2)) (hl : l.length ≤ 1000) (hgs : ∀ q ∈ l, ∀ x ∈ blkL q.1, x ∈ gs) :
    To Tryd.prog 20 [.slice (some ⟨gr, 0, none⟩) l.length l.length] w fun v w' => v = .bool true ∧ Chg gs w w' ∧ MS M w' := by
  obtain ⟨h1, h2, h3⟩ := rows_of l h hp ho hB
  have e : (l.map rowOf).length = l.length := by simp
  have := Owned.go w M hM gr (l.map rowOf) h1 (by omega) h2
  rw [e] at this
  exact this.mono fun v w' ⟨e, hc, hm, _⟩ => ⟨e, hc.mono (fun x hx => .inl (h3 gs hgs x hx)), hm⟩

def vinerylaw06_PmsiCodes.f (k : Nat) (a0 : S_api_Tunnel) (a1 : List Int) : Option (Bool) := (vinerylaw06_small.f k ).bind fun t10 => (if (if (decide ((a0.Id.length : Int) > (4096 : Int))) = true then true else (decide ((a1.length : Int) > (4096 : Int)))) = true then some ((t10 : Bool)) else (Lent.f a1).bind fun t16 => (Lent.f a0.Id).bind fun t26 => (pmsi_Bytes.f k (⟨a0.Leaf, a0.Kind, a0.Label, a0.Root, t26⟩ : S_api_Tunnel)).bind fun t31 => (pmsi_Parse.f k t16).bind fun t34 => ((Kept.f t16 a1).bind fun t87 => (if t87 = true then (Kept.f t26 a0.Id).bind fun t89 => some (t89 : Bool) else some (false : Bool))).bind fun s43 => (vineryref06_Bytes.f k a0).bind fun t45 => (vineryref06_Parse.f k a1).bind fun t48 => ((if ((bstr (b2s t31.1)).toList == (bstr (b2s t45.1)).toList) = true then (vineryref06_Equal.f t34.1 t48.1).bind fun t86 => some (t86 : Bool) else some (false : Bool))).bind fun s57 => ((if t10 = true then (if s43 = true then (if s57 = true then (if (t31.2 == t45.2) = true then (if (t34.2 == t48.2) = true then (pmsi_Right.f k a0).bind fun t71 => (vineryref06_Right.f k a0).bind fun t72 => some (t71 == t72 : Bool) else some (false : Bool)) else some (false : Bool)) else some (false : Bool)) else some (false : Bool)) else some (false : Bool))).bind fun s65 => some ((s65 : Bool)))
set_option maxRecDepth 100000 in
theorem vinerylaw06_PmsiCodes.walk (w : World) (M : List Nat) (hM : MS M w) (a0 : S_api_Tunnel) (ao1 : Option Addr) (cap1 : Nat) (f1 : RSl (rInt .u8) 5 w M ao1 cap1 a0.Id) (a1 : List Int) (ao2 : Option Addr) (cap2 : Nat) (f2 : RSl (rInt .u8) 5 w M ao2 cap2 a1) (k : Nat) (r : Bool) (H : vinerylaw06_PmsiCodes.f k a0 a1 = some r) :
    To Tryd.prog 3 [.agg (cS_api_Tunnel a0 ao1 cap1).toArray, .slice ao2 a1.length cap2] w fun v w' => v = .bool r ∧ Chg [] w w' ∧ MS (M) w' := by
 unfold vinerylaw06_PmsiCodes.f at H
 refine ent Tryd.func3 rfl [(0, .agg (cS_api_Tunnel a0 ao1 cap1).toArray), (1, .slice ao2 a1.length cap2)] rfl (by rfl) fun a ha => ?_
 have hC : Chg [] w w := Chg.refl _ _
 refine wp_seq_k fun K3 hK3 => ?_
 refine wp_region_lit ?_
 refine bx (cs := (cS_api_Tunnel a0 ao1 cap1)) ha rfl rfl rfl rfl rfl fun a w4 g5 hN6 ha => ?_
 have hn8 := hN6.notin hM
 have o1 : Ok [] (M) w.heap.size := Ok.nil _ _
 have o2 : Ok (M) (M) w.heap.size := (Ok.refl _ _)
 have f1 := f1.chg hN6.chg o1 o2
 have f2 := f2.chg hN6.chg o1 o2
 have hM : MS (M) w4 := (hM.chg hN6.chg)
 have hC := hC.trans hN6.chg (Ok.nil _ _)
 have hE7 : ∀ j v, (cS_api_Tunnel a0 ao1 cap1)[j]? = some v → w4.cell? ⟨g5, 0 + j, none⟩ = some v := Box.cells (New.box hN6)
 refine seg ha 1 [(1, .slice ao2 a1.length cap2), (2, .pointer (some ⟨g5, 0, none⟩))] (by kernel_rfl) fun a ha => ?_
 refine hK3 _ _ ?_; try clear hK3 K3
 refine wp_seq_k fun K9 hK9 => ?_
 refine wp_region_lit ?_
 obtain ⟨t10, H10, H⟩ := bind_some H
 refine cl ha (by rfl) (by kernel_rfl) (by rfl) (by rfl) (by rfl) (vinerylaw06_small.walk w4 _ hM  k _ H10) ?_
 rintro _ w10 ⟨rfl, hc10, hMn⟩ a ha
 have o1 : Ok [] (M) w4.heap.size := Ok.nil _ _
 have o2 : Ok (M) (M) w4.heap.size := (Ok.refl _ _)
 have f2 := f2.chg hc10 o1 o2
 have f1 := f1.chg hc10 o1 o2
 have q_hn8 : g5 ∉ M := fun h => (o2 g5 h).elim hn8 (fun h => absurd (lt_cell (hE7 0 _ rfl)) (Nat.not_lt.2 h))
 have hE7 : ∀ j v, (cS_api_Tunnel a0 ao1 cap1)[j]? = some v → w10.cell? ⟨g5, 0 + j, none⟩ = some v := fun j v hv => (cell_keep hc10 o1 hn8 (hE7 j v hv))
 have hn8 := q_hn8
 have hM : MS (M) w10 := (hM.chg hc10)
 have hC := hC.trans hc10 (Ok.nil _ _)
 refine seg ha 1 [(1, .slice ao2 a1.length cap2), (2, .pointer (some ⟨g5, 0, none⟩)), (5, .bool t10)] (by kernel_rfl) fun a ha => ?_
 refine hK9 _ _ ?_; try clear hK9 K9
 refine wp_seq_k fun K11 hK11 => ?_
 refine wp_seq_k fun K12 hK12 => ?_
 refine wp_region_lit ?_
 refine seg ha 1 [(1, .slice ao2 a1.length cap2), (2, .pointer (some ⟨g5, 0, none⟩)), (5, .bool t10), (20, .pointer (some ⟨g5, 0 + 20, none⟩))] (by kernel_rfl) fun a ha => ?_
 refine ld ha rfl (by kernel_rfl) rfl rfl rfl (hE7 20 (.slice ao1 a0.Id.length cap1) (by kernel_rfl)) fun a ha => ?_
 refine seg ha 7 [(1, .slice ao2 a1.length cap2), (2, .pointer (some ⟨g5, 0, none⟩)), (5, .bool t10), (28, .bool (if (decide ((a0.Id.length : Int) > (4096 : Int))) = true then true else (decide ((a1.length : Int) > (4096 : Int)))))] (by kernel_rfl) fun a ha => ?_
 refine hK12 _ _ ?_; try clear hK12 K12
 refine cnd ha rfl (fun hc13 => ?_) (fun hc13 => ?_)
 ·have H := ite_t hc13 H
  refine wp_seq_k fun K14 hK14 => ?_
  refine wp_region_lit ?_
  refine seg ha 2 [(4, .bool t10)] (by kernel_rfl) fun a ha => ?_
  refine hK14 _ _ ?_; try clear hK14 K14
  refine wp_ret ?_
  try simp only [Exit.then, Exit.inBlock]
  obtain rfl := Option.some.inj H
  refine rt1 ha rfl rfl ?_
  exact ⟨rfl, hC, hM⟩
 ·have H := ite_f hc13 H
  refine wp_skip ?_
  refine hK11 _ _ ?_; try clear hK11 K11
  refine wp_seq_k fun K15 hK15 => ?_
  refine wp_region_lit ?_
  refine seg ha 1 [(1, .slice ao2 a1.length cap2), (2, .pointer (some ⟨g5, 0, none⟩)), (5, .bool t10), (30, .slice ao2 a1.length cap2)] (by kernel_rfl) fun a ha => ?_
  obtain ⟨t16, H16, H⟩ := bind_some H
  refine cl ha (by rfl) (by kernel_rfl) (by rfl) (by rfl) (by rfl) (Lent.walk w10 _ hM a1 ao2 cap2 f2 _ H16) ?_
  rintro _ w16 ⟨ao17, cap17, rfl, f17, ne_i17, hc16, hMn⟩ a ha
  have o1 : Ok [] (M) w10.heap.size := Ok.nil _ _
  have o2 : Ok (blkL ao17 ++ (M)) (M) w10.heap.size := (Ok.app (fun x h => .inr (ne_i17 x h)) (Ok.refl _ _))
  have f2 := f2.chg hc16 o1 o2
  have f1 := f1.chg hc16 o1 o2
  have q_hn8 : g5 ∉ blkL ao17 ++ (M) := fun h => (o2 g5 h).elim hn8 (fun h => absurd (lt_cell (hE7 0 _ rfl)) (Nat.not_lt.2 h))
  have hE7 : ∀ j v, (cS_api_Tunnel a0 ao1 cap1)[j]? = some v → w16.cell? ⟨g5, 0 + j, none⟩ = some v := fun j v hv => (cell_keep hc16 o1 hn8 (hE7 j v hv))
  have hn8 := q_hn8
  have p_i17_M : ∀ x ∈ blkL ao17, x ∉ M := fun x hx hy => absurd (hM x (hy)) (Nat.not_lt.2 (ne_i17 x hx))
  have e_i17 : ∀ x ∈ blkL ao17, w.heap.size ≤ x := fun x hx => Nat.le_trans hC.size (ne_i17 x hx)
  have hM : MS (blkL ao17 ++ (M)) w16 := (MS.app (fun x h => hMn x (ml h)) (hM.chg hc16))
  have hC := hC.trans hc16 (Ok.nil _ _)
  refine seg ha 1 [(1, .slice ao2 a1.length cap2), (2, .pointer (some ⟨g5, 0, none⟩)), (5, .bool t10), (6, .slice ao17 t16.length cap17)] (by kernel_rfl) fun a ha => ?_
  refine hK15 _ _ ?_; try clear hK15 K15
  refine wp_seq_k fun K18 hK18 => ?_
  refine wp_region_lit ?_
  refine ldA (cs := (cS_api_Tunnel a0 ao1 cap1)) ha rfl (by kernel_rfl) rfl rfl rfl (cells_sub hE7 (all := (cS_api_Tunnel a0 ao1 cap1)) [] [] (by kernel_rfl)) fun a ha => ?_
  refine al (cs := (cS_api_Tunnel (⟨false, (0 : Int), (0 : Int), (⟨(0 : Int), (List.replicate 16 (0 : Int))⟩ : S_api_Addr), ([] : List Int)⟩ : S_api_Tunnel) none 0)) (z := .agg (cS_api_Tunnel (⟨false, (0 : Int), (0 : Int), (⟨(0 : Int), (List.replicate 16 (0 : Int))⟩ : S_api_Addr), ([] : List Int)⟩ : S_api_Tunnel) none 0).toArray) ha (fun w => by kernel_rfl) rfl rfl rfl rfl fun a w19 g20 hN21 ha => ?_
  have o1 : Ok [] (blkL ao17 ++ (M)) w16.heap.size := Ok.nil _ _
  have o2 : Ok ([g20] ++ (blkL ao17 ++ (M))) (blkL ao17 ++ (M)) w16.heap.size := (Ok.app (hN21.ok _) (Ok.refl _ _))
  have f2 := f2.chg hN21.chg o1 o2
  have f1 := f1.chg hN21.chg o1 o2
  have f17 := f17.chg hN21.chg o1 o2 (fun _ _ h => nomatch h) (fun _ h => mr (ml h))
  have q_hn8 : g5 ∉ [g20] ++ (blkL ao17 ++ (M)) := fun h => (o2 g5 h).elim hn8 (fun h => absurd (lt_cell (hE7 0 _ rfl)) (Nat.not_lt.2 h))
  have hE7 : ∀ j v, (cS_api_Tunnel a0 ao1 cap1)[j]? = some v → w19.cell? ⟨g5, 0 + j, none⟩ = some v := fun j v hv => (cell_keep hN21.chg o1 hn8 (hE7 j v hv))
  have hn8 := q_hn8
  have p_i22_i17 : ∀ x ∈ [g20], x ∉ (blkL ao17) := fun x hx hy => absurd (hM x (ml hy)) (Nat.not_lt.2 ((hN21.ge1) x hx))
  have p_i22_M : ∀ x ∈ [g20], x ∉ M := fun x hx hy => absurd (hM x (mr (hy))) (Nat.not_lt.2 ((hN21.ge1) x hx))
  have e_i22 : ∀ x ∈ [g20], w.heap.size ≤ x := fun x hx => Nat.le_trans hC.size ((hN21.ge1) x hx)
  have hM : MS ([g20] ++ (blkL ao17 ++ (M))) w19 := (MS.app hN21.ms (hM.chg hN21.chg))
  have hC := hC.trans hN21.chg (Ok.nil _ _)
  have hBg20 : Box w19 g20 (cS_api_Tunnel (⟨false, (0 : Int), (0 : Int), (⟨(0 : Int), (List.replicate 16 (0 : Int))⟩ : S_api_Addr), ([] : List Int)⟩ : S_api_Tunnel) none 0) := hN21.box
  refine stA (l := (cS_api_Tunnel a0 ao1 cap1)) ha rfl rfl rfl (by kernel_rfl) rfl rfl hBg20 rfl fun a w23 ha hb2 hc24 _ => ?_
  have o1 : Ok [g20] ([g20] ++ (blkL ao17 ++ (M))) w19.heap.size := (fun _ h => .inl (ml h))
  have o2 : Ok ([g20] ++ (blkL ao17 ++ (M))) ([g20] ++ (blkL ao17 ++ (M))) w19.heap.size := (Ok.refl _ _)
  have f2 := f2.chg hc24 o1 o2
  have f1 := f1.chg hc24 o1 o2
  have f17 := f17.chg hc24 o1 o2 (fun x (hx : x ∈ blkL ao17) (hy : x ∈ [g20]) => p_i22_i17 x hy hx) (fun _ h => mr (ml h))
  have q_hn8 : g5 ∉ [g20] ++ (blkL ao17 ++ (M)) := fun h => (o2 g5 h).elim hn8 (fun h => absurd (lt_cell (hE7 0 _ rfl)) (Nat.not_lt.2 h))
  have hE7 : ∀ j v, (cS_api_Tunnel a0 ao1 cap1)[j]? = some v → w23.cell? ⟨g5, 0 + j, none⟩ = some v := fun j v hv => (cell_keep hc24 o1 hn8 (hE7 j v hv))
  have hn8 := q_hn8
  have hM : MS ([g20] ++ (blkL ao17 ++ (M))) w23 := (hM.chg hc24)
  have hC := hC.trans hc24 (fun x h => .inr (e_i22 x h))
  have hBg20 : Box w23 g20 (cS_api_Tunnel a0 ao1 cap1) := hb2
  refine hK18 _ _ ?_; try clear hK18 K18
  refine wp_seq_k fun K25 hK25 => ?_
  refine wp_region_lit ?_
  refine seg ha 1 [(1, .slice ao2 a1.length cap2), (2, .pointer (some ⟨g5, 0, none⟩)), (5, .bool t10), (6, .slice ao17 t16.length cap17), (7, .pointer (some ⟨g20, 0, none⟩)), (33, .pointer (some ⟨g5, 0 + 20, none⟩))] (by kernel_rfl) fun a ha => ?_
  refine ld ha rfl (by kernel_rfl) rfl rfl rfl (hE7 20 (.slice ao1 a0.Id.length cap1) (by kernel_rfl)) fun a ha => ?_
  obtain ⟨t26, H26, H⟩ := bind_some H
  refine cl ha (by rfl) (by kernel_rfl) (by rfl) (by rfl) (by rfl) (Lent.walk w23 _ hM a0.Id ao1 cap1 f1 _ H26) ?_
  rintro _ w26 ⟨ao27, cap27, rfl, f27, ne_i27, hc26, hMn⟩ a ha
  have o1 : Ok [] ([g20] ++ (blkL ao17 ++ (M))) w23.heap.size := Ok.nil _ _
  have o2 : Ok (blkL ao27 ++ ([g20] ++ (blkL ao17 ++ (M)))) ([g20] ++ (blkL ao17 ++ (M))) w23.heap.size := (Ok.app (fun x h => .inr (ne_i27 x h)) (Ok.refl _ _))
  have f2 := f2.chg hc26 o1 o2
  have f1 := f1.chg hc26 o1 o2
  have f17 := f17.chg hc26 o1 o2 (fun _ _ h => nomatch h) (fun _ h => mr (mr (ml h)))
  have hBg20 := hBg20.chg hc26 (fun h => nomatch h)
  have q_hn8 : g5 ∉ blkL ao27 ++ ([g20] ++ (blkL ao17 ++ (M))) := fun h => (o2 g5 h).elim hn8 (fun h => absurd (lt_cell (hE7 0 _ rfl)) (Nat.not_lt.2 h))
  have hE7 : ∀ j v, (cS_api_Tunnel a0 ao1 cap1)[j]? = some v → w26.cell? ⟨g5, 0 + j, none⟩ = some v := fun j v hv => (cell_keep hc26 o1 hn8 (hE7 j v hv))
  have hn8 := q_hn8
  have p_i27_i22 : ∀ x ∈ blkL ao27, x ∉ ([g20]) := fun x hx hy => absurd (hM x (ml hy)) (Nat.not_lt.2 (ne_i27 x hx))
  have p_i27_i17 : ∀ x ∈ blkL ao27, x ∉ (blkL ao17) := fun x hx hy => absurd (hM x (mr (ml hy))) (Nat.not_lt.2 (ne_i27 x hx))
  have p_i27_M : ∀ x ∈ blkL ao27, x ∉ M := fun x hx hy => absurd (hM x (mr (mr (hy)))) (Nat.not_lt.2 (ne_i27 x hx))
  have e_i27 : ∀ x ∈ blkL ao27, w.heap.size ≤ x := fun x hx => Nat.le_trans hC.size (ne_i27 x hx)
  have hM : MS (blkL ao27 ++ ([g20] ++ (blkL ao17 ++ (M)))) w26 := (MS.app (fun x h => hMn x (ml h)) (hM.chg hc26))
  have hC := hC.trans hc26 (Ok.nil _ _)
  refine seg ha 1 [(1, .slice ao2 a1.length cap2), (2, .pointer (some ⟨g5, 0, none⟩)), (5, .bool t10), (6, .slice ao17 t16.length cap17), (7, .pointer (some ⟨g20, 0, none⟩)), (35, .slice ao27 t26.length cap27), (36, .pointer (some ⟨g20, 20, none⟩))] (by kernel_rfl) fun a ha => ?_
  refine st ha rfl rfl rfl (by kernel_rfl) rfl rfl hBg20 (Nat.le_of_ble_eq_true (by kernel_rfl)) fun a w28 ha hb2 hc29 _ => ?_
  have o1 : Ok [g20] (blkL ao27 ++ ([g20] ++ (blkL ao17 ++ (M)))) w26.heap.size := (fun _ h => .inl (mr (ml h)))
  have o2 : Ok (blkL ao27 ++ ([g20] ++ (blkL ao17 ++ (M)))) (blkL ao27 ++ ([g20] ++ (blkL ao17 ++ (M)))) w26.heap.size := (Ok.refl _ _)
  have f2 := f2.chg hc29 o1 o2
  have f1 := f1.chg hc29 o1 o2
  have f17 := f17.chg hc29 o1 o2 (fun x (hx : x ∈ blkL ao17) (hy : x ∈ [g20]) => p_i22_i17 x hy hx) (fun _ h => mr (mr (ml h)))
  have f27 := f27.chg hc29 o1 o2 p_i27_i22 (fun _ h => ml h)
  have q_hn8 : g5 ∉ blkL ao27 ++ ([g20] ++ (blkL ao17 ++ (M))) := fun h => (o2 g5 h).elim hn8 (fun h => absurd (lt_cell (hE7 0 _ rfl)) (Nat.not_lt.2 h))
  have hE7 : ∀ j v, (cS_api_Tunnel a0 ao1 cap1)[j]? = some v → w28.cell? ⟨g5, 0 + j, none⟩ = some v := fun j v hv => (cell_keep hc29 o1 hn8 (hE7 j v hv))
  have hn8 := q_hn8
  have hM : MS (blkL ao27 ++ ([g20] ++ (blkL ao17 ++ (M)))) w28 := (hM.chg hc29)
  have hC := hC.trans hc29 (fun x h => .inr (e_i22 x h))
  have hBg20 : Box w28 g20 (cS_api_Tunnel (⟨a0.Leaf, a0.Kind, a0.Label, a0.Root, t26⟩ : S_api_Tunnel) ao27 cap27) := hb2
  refine hK25 _ _ ?_; try clear hK25 K25
  refine wp_seq_k fun K30 hK30 => ?_
  refine wp_region_lit ?_
  refine ldA (cs := (cS_api_Tunnel (⟨a0.Leaf, a0.Kind, a0.Label, a0.Root, t26⟩ : S_api_Tunnel) ao27 cap27)) ha rfl (by kernel_rfl) rfl rfl rfl (cells_sub (Box.cells hBg20) (all := (cS_api_Tunnel (⟨a0.Leaf, a0.Kind, a0.Label, a0.Root, t26⟩ : S_api_Tunnel) ao27 cap27)) [] [] (by kernel_rfl)) fun a ha => ?_
  have hML : MS ([g20] ++ (blkL ao17 ++ (M))) w28 := MS.rest hM (fun _ h => (List.mem_append.1 h).elim (fun h => mr (ml h)) (fun h => (List.mem_append.1 h).elim (fun h => mr (mr (ml h))) (fun h => mr (mr (mr (h))))))
  have oL : Ok ([g20] ++ (blkL ao17 ++ (M))) (blkL ao27 ++ ([g20] ++ (blkL ao17 ++ (M)))) w28.heap.size := (fun _ h => .inl (mr (h)))
  obtain ⟨t31, H31, H⟩ := bind_some H
  refine cl ha (by rfl) (by kernel_rfl) (by rfl) (by rfl) (by rfl) (pmsi_Bytes.walk w28 _ hML (⟨a0.Leaf, a0.Kind, a0.Label, a0.Root, t26⟩ : S_api_Tunnel) ao27 cap27 (Len.toRSl (M' := [g20] ++ (blkL ao17 ++ (M))) f27 oL (fun x hx hm => (List.mem_append.1 hm).elim (fun h => p_i27_i22 x hx h) (fun h => (List.mem_append.1 h).elim (fun h => p_i27_i17 x hx h) (fun h => p_i27_M x hx h)))) k _ H31) ?_
  rintro _ w31 ⟨ao32, cap32, rfl, f32, ne_i32, hc31, hMn⟩ a ha
  have o1 : Ok [] (blkL ao27 ++ ([g20] ++ (blkL ao17 ++ (M)))) w28.heap.size := Ok.nil _ _
  have o2 : Ok (blkL ao32 ++ (blkL ao27 ++ ([g20] ++ (blkL ao17 ++ (M))))) (blkL ao27 ++ ([g20] ++ (blkL ao17 ++ (M)))) w28.heap.size := (Ok.app (fun x h => .inr (ne_i32 x h)) (Ok.refl _ _))
  have f2 := f2.chg hc31 o1 o2
  have f1 := f1.chg hc31 o1 o2
  have f17 := f17.chg hc31 o1 o2 (fun _ _ h => nomatch h) (fun _ h => mr (mr (mr (ml h))))
  have f27 := f27.chg hc31 o1 o2 (fun _ _ h => nomatch h) (fun _ h => mr (ml h))
  have hBg20 := hBg20.chg hc31 (fun h => nomatch h)
  have q_hn8 : g5 ∉ blkL ao32 ++ (blkL ao27 ++ ([g20] ++ (blkL ao17 ++ (M)))) := fun h => (o2 g5 h).elim hn8 (fun h => absurd (lt_cell (hE7 0 _ rfl)) (Nat.not_lt.2 h))
  have hE7 : ∀ j v, (cS_api_Tunnel a0 ao1 cap1)[j]? = some v → w31.cell? ⟨g5, 0 + j, none⟩ = some v := fun j v hv => (cell_keep hc31 o1 hn8 (hE7 j v hv))
  have hn8 := q_hn8
  have p_i32_i27 : ∀ x ∈ blkL ao32, x ∉ (blkL ao27) := fun x hx hy => absurd (hM x (ml hy)) (Nat.not_lt.2 (ne_i32 x hx))
  have p_i32_i22 : ∀ x ∈ blkL ao32, x ∉ ([g20]) := fun x hx hy => absurd (hM x (mr (ml hy))) (Nat.not_lt.2 (ne_i32 x hx))
  have p_i32_i17 : ∀ x ∈ blkL ao32, x ∉ (blkL ao17) := fun x hx hy => absurd (hM x (mr (mr (ml hy)))) (Nat.not_lt.2 (ne_i32 x hx))
  have p_i32_M : ∀ x ∈ blkL ao32, x ∉ M := fun x hx hy => absurd (hM x (mr (mr (mr (hy))))) (Nat.not_lt.2 (ne_i32 x hx))
  have e_i32 : ∀ x ∈ blkL ao32, w.heap.size ≤ x := fun x hx => Nat.le_trans hC.size (ne_i32 x hx)
  have hM : MS (blkL ao32 ++ (blkL ao27 ++ ([g20] ++ (blkL ao17 ++ (M))))) w31 := (MS.app (fun x h => hMn x (ml h)) (hM.chg hc31))
  have hC := hC.trans hc31 (Ok.nil _ _)
  have f32 := Own.re (M' := blkL ao32 ++ (blkL ao27 ++ ([g20] ++ (blkL ao17 ++ (M))))) (fun _ _ _ _ _ h => h) f32 (fun _ h => ml h)
  refine seg ha 5 [(1, .slice ao2 a1.length cap2), (2, .pointer (some ⟨g5, 0, none⟩)), (5, .bool t10), (6, .slice ao17 t16.length cap17), (7, .pointer (some ⟨g20, 0, none⟩)), (8, .slice ao32 t31.1.length cap32), (9, .int .i64 t31.2)] (by kernel_rfl) fun a ha => ?_
  refine hK30 _ _ ?_; try clear hK30 K30
  refine wp_seq_k fun K33 hK33 => ?_
  refine wp_region_lit ?_
  refine seg ha 1 [(1, .slice ao2 a1.length cap2), (2, .pointer (some ⟨g5, 0, none⟩)), (5, .bool t10), (6, .slice ao17 t16.length cap17), (7, .pointer (some ⟨g20, 0, none⟩)), (8, .slice ao32 t31.1.length cap32), (9, .int .i64 t31.2), (43, .slice ao17 t16.length cap17)] (by kernel_rfl) fun a ha => ?_
  have hML : MS (blkL ao32 ++ (blkL ao27 ++ ([g20] ++ (M)))) w31 := MS.rest hM (fun _ h => (List.mem_append.1 h).elim (fun h => ml h) (fun h => (List.mem_append.1 h).elim (fun h => mr (ml h)) (fun h => (List.mem_append.1 h).elim (fun h => mr (mr (ml h))) (fun h => mr (mr (mr (mr (h))))))))
  have oL : Ok (blkL ao32 ++ (blkL ao27 ++ ([g20] ++ (M)))) (blkL ao32 ++ (blkL ao27 ++ ([g20] ++ (blkL ao17 ++ (M))))) w31.heap.size := (Ok.app (fun _ h => .inl (ml h)) (Ok.app (fun _ h => .inl (mr (ml h))) (Ok.app (fun _ h => .inl (mr (mr (ml h)))) (fun _ h => .inl (mr (mr (mr (mr (h)))))))))
  obtain ⟨t34, H34, H⟩ := bind_some H
  refine cl ha (by rfl) (by kernel_rfl) (by rfl) (by rfl) (by rfl) (pmsi_Parse.walk w31 _ hML t16 ao17 cap17 (Len.toRSl (M' := blkL ao32 ++ (blkL ao27 ++ ([g20] ++ (M)))) f17 oL (fun x hx hm => (List.mem_append.1 hm).elim (fun h => (fun x hx hy => p_i32_i17 x hy hx) x hx h) (fun h => (List.mem_append.1 h).elim (fun h => (fun x hx hy => p_i27_i17 x hy hx) x hx h) (fun h => (List.mem_append.1 h).elim (fun h => (fun x hx hy => p_i22_i17 x hy hx) x hx h) (fun h => p_i17_M x hx h))))) k _ H34) ?_
  rintro _ w34 ⟨ao35, cap35, rfl, f35, ne_i35, hc34, hMn⟩ a ha
  have o1 : Ok [] (blkL ao32 ++ (blkL ao27 ++ ([g20] ++ (blkL ao17 ++ (M))))) w31.heap.size := Ok.nil _ _
  have o2 : Ok (blkL ao35 ++ (blkL ao32 ++ (blkL ao27 ++ ([g20] ++ (blkL ao17 ++ (M)))))) (blkL ao32 ++ (blkL ao27 ++ ([g20] ++ (blkL ao17 ++ (M))))) w31.heap.size := (Ok.app (fun x h => .inr (ne_i35 x h)) (Ok.refl _ _))
  have f2 := f2.chg hc34 o1 o2
  have f1 := f1.chg hc34 o1 o2
  have f17 := f17.chg hc34 o1 o2 (fun _ _ h => nomatch h) (fun _ h => mr (mr (mr (mr (ml h)))))
  have f32 := f32.chg hc34 o1 o2 (fun _ _ h => nomatch h) (fun _ h => mr (ml h))
  have f27 := f27.chg hc34 o1 o2 (fun _ _ h => nomatch h) (fun _ h => mr (mr (ml h)))
  have hBg20 := hBg20.chg hc34 (fun h => nomatch h)
  have q_hn8 : g5 ∉ blkL ao35 ++ (blkL ao32 ++ (blkL ao27 ++ ([g20] ++ (blkL ao17 ++ (M))))) := fun h => (o2 g5 h).elim hn8 (fun h => absurd (lt_cell (hE7 0 _ rfl)) (Nat.not_lt.2 h))
  have hE7 : ∀ j v, (cS_api_Tunnel a0 ao1 cap1)[j]? = some v → w34.cell? ⟨g5, 0 + j, none⟩ = some v := fun j v hv => (cell_keep hc34 o1 hn8 (hE7 j v hv))
  have hn8 := q_hn8
  have p_i35_i32 : ∀ x ∈ blkL ao35, x ∉ (blkL ao32) := fun x hx hy => absurd (hM x (ml hy)) (Nat.not_lt.2 (ne_i35 x hx))
  have p_i35_i27 : ∀ x ∈ blkL ao35, x ∉ (blkL ao27) := fun x hx hy => absurd (hM x (mr (ml hy))) (Nat.not_lt.2 (ne_i35 x hx))
  have p_i35_i22 : ∀ x ∈ blkL ao35, x ∉ ([g20]) := fun x hx hy => absurd (hM x (mr (mr (ml hy)))) (Nat.not_lt.2 (ne_i35 x hx))
  have p_i35_i17 : ∀ x ∈ blkL ao35, x ∉ (blkL ao17) := fun x hx hy => absurd (hM x (mr (mr (mr (ml hy))))) (Nat.not_lt.2 (ne_i35 x hx))
  have p_i35_M : ∀ x ∈ blkL ao35, x ∉ M := fun x hx hy => absurd (hM x (mr (mr (mr (mr (hy)))))) (Nat.not_lt.2 (ne_i35 x hx))
  have e_i35 : ∀ x ∈ blkL ao35, w.heap.size ≤ x := fun x hx => Nat.le_trans hC.size (ne_i35 x hx)
  have hM : MS (blkL ao35 ++ (blkL ao32 ++ (blkL ao27 ++ ([g20] ++ (blkL ao17 ++ (M)))))) w34 := (MS.app (fun x h => hMn x (ml h)) (hM.chg hc34))
  have hC := hC.trans hc34 (Ok.nil _ _)
  have f35 := Own.re (M' := blkL ao35 ++ (blkL ao32 ++ (blkL ao27 ++ ([g20] ++ (blkL ao17 ++ (M)))))) (fun _ _ _ _ _ h => h) f35 (fun _ h => ml h)
  refine seg ha 3 [(1, .slice ao2 a1.length cap2), (2, .pointer (some ⟨g5, 0, none⟩)), (5, .bool t10), (6, .slice ao17 t16.length cap17), (7, .pointer (some ⟨g20, 0, none⟩)), (8, .slice ao32 t31.1.length cap32), (9, .int .i64 t31.2), (45, .agg (cS_api_Tunnel t34.1 ao35 cap35).toArray), (46, .int .i64 t34.2)] (by kernel_rfl) fun a ha => ?_
  refine al (cs := (cS_api_Tunnel (⟨false, (0 : Int), (0 : Int), (⟨(0 : Int), (List.replicate 16 (0 : Int))⟩ : S_api_Addr), ([] : List Int)⟩ : S_api_Tunnel) none 0)) (z := .agg (cS_api_Tunnel (⟨false, (0 : Int), (0 : Int), (⟨(0 : Int), (List.replicate 16 (0 : Int))⟩ : S_api_Addr), ([] : List Int)⟩ : S_api_Tunnel) none 0).toArray) ha (fun w => by kernel_rfl) rfl rfl rfl rfl fun a w36 g37 hN38 ha => ?_
  have o1 : Ok [] (blkL ao35 ++ (blkL ao32 ++ (blkL ao27 ++ ([g20] ++ (blkL ao17 ++ (M)))))) w34.heap.size := Ok.nil _ _
  have o2 : Ok ([g37] ++ (blkL ao35 ++ (blkL ao32 ++ (blkL ao27 ++ ([g20] ++ (blkL ao17 ++ (M))))))) (blkL ao35 ++ (blkL ao32 ++ (blkL ao27 ++ ([g20] ++ (blkL ao17 ++ (M)))))) w34.heap.size := (Ok.app (hN38.ok _) (Ok.refl _ _))
  have f2 := f2.chg hN38.chg o1 o2
  have f1 := f1.chg hN38.chg o1 o2
  have f17 := f17.chg hN38.chg o1 o2 (fun _ _ h => nomatch h) (fun _ h => mr (mr (mr (mr (mr (ml h))))))
  have f32 := f32.chg hN38.chg o1 o2 (fun _ _ h => nomatch h) (fun _ h => mr (mr (ml h)))
  have f35 := f35.chg hN38.chg o1 o2 (fun _ _ h => nomatch h) (fun _ h => mr (ml h))
  have f27 := f27.chg hN38.chg o1 o2 (fun _ _ h => nomatch h) (fun _ h => mr (mr (mr (ml h))))
  have hBg20 := hBg20.chg hN38.chg (fun h => nomatch h)
  have q_hn8 : g5 ∉ [g37] ++ (blkL ao35 ++ (blkL ao32 ++ (blkL ao27 ++ ([g20] ++ (blkL ao17 ++ (M)))))) := fun h => (o2 g5 h).elim hn8 (fun h => absurd (lt_cell (hE7 0 _ rfl)) (Nat.not_lt.2 h))
  have hE7 : ∀ j v, (cS_api_Tunnel a0 ao1 cap1)[j]? = some v → w36.cell? ⟨g5, 0 + j, none⟩ = some v := fun j v hv => (cell_keep hN38.chg o1 hn8 (hE7 j v hv))
  have hn8 := q_hn8
  have p_i39_i35 : ∀ x ∈ [g37], x ∉ (blkL ao35) := fun x hx hy => absurd (hM x (ml hy)) (Nat.not_lt.2 ((hN38.ge1) x hx))
  have p_i39_i32 : ∀ x ∈ [g37], x ∉ (blkL ao32) := fun x hx hy => absurd (hM x (mr (ml hy))) (Nat.not_lt.2 ((hN38.ge1) x hx))
  have p_i39_i27 : ∀ x ∈ [g37], x ∉ (blkL ao27) := fun x hx hy => absurd (hM x (mr (mr (ml hy)))) (Nat.not_lt.2 ((hN38.ge1) x hx))
  have p_i39_i22 : ∀ x ∈ [g37], x ∉ ([g20]) := fun x hx hy => absurd (hM x (mr (mr (mr (ml hy))))) (Nat.not_lt.2 ((hN38.ge1) x hx))
  have p_i39_i17 : ∀ x ∈ [g37], x ∉ (blkL ao17) := fun x hx hy => absurd (hM x (mr (mr (mr (mr (ml hy)))))) (Nat.not_lt.2 ((hN38.ge1) x hx))
  have p_i39_M : ∀ x ∈ [g37], x ∉ M := fun x hx hy => absurd (hM x (mr (mr (mr (mr (mr (hy))))))) (Nat.not_lt.2 ((hN38.ge1) x hx))
  have e_i39 : ∀ x ∈ [g37], w.heap.size ≤ x := fun x hx => Nat.le_trans hC.size ((hN38.ge1) x hx)
  have hM : MS ([g37] ++ (blkL ao35 ++ (blkL ao32 ++ (blkL ao27 ++ ([g20] ++ (blkL ao17 ++ (M))))))) w36 := (MS.app hN38.ms (hM.chg hN38.chg))
  have hC := hC.trans hN38.chg (Ok.nil _ _)
  have hBg37 : Box w36 g37 (cS_api_Tunnel (⟨false, (0 : Int), (0 : Int), (⟨(0 : Int), (List.replicate 16 (0 : Int))⟩ : S_api_Addr), ([] : List Int)⟩ : S_api_Tunnel) none 0) := hN38.box
  refine stA (l := (cS_api_Tunnel t34.1 ao35 cap35)) ha rfl rfl rfl (by kernel_rfl) rfl rfl hBg37 rfl fun a w40 ha hb2 hc41 _ => ?_
  have o1 : Ok [g37] ([g37] ++ (blkL ao35 ++ (blkL ao32 ++ (blkL ao27 ++ ([g20] ++ (blkL ao17 ++ (M))))))) w36.heap.size := (fun _ h => .inl (ml h))
  have o2 : Ok ([g37] ++ (blkL ao35 ++ (blkL ao32 ++ (blkL ao27 ++ ([g20] ++ (blkL ao17 ++ (M))))))) ([g37] ++ (blkL ao35 ++ (blkL ao32 ++ (blkL ao27 ++ ([g20] ++ (blkL ao17 ++ (M))))))) w36.heap.size := (Ok.refl _ _)
  have f2 := f2.chg hc41 o1 o2
  have f1 := f1.chg hc41 o1 o2
  have f17 := f17.chg hc41 o1 o2 (fun x (hx : x ∈ blkL ao17) (hy : x ∈ [g37]) => p_i39_i17 x hy hx) (fun _ h => mr (mr (mr (mr (mr (ml h))))))
  have f32 := f32.chg hc41 o1 o2 (fun x (hx : x ∈ blkL ao32) (hy : x ∈ [g37]) => p_i39_i32 x hy hx) (fun _ h => mr (mr (ml h)))
  have f35 := f35.chg hc41 o1 o2 (fun x (hx : x ∈ blkL ao35) (hy : x ∈ [g37]) => p_i39_i35 x hy hx) (fun _ h => mr (ml h))
  have f27 := f27.chg hc41 o1 o2 (fun x (hx : x ∈ blkL ao27) (hy : x ∈ [g37]) => p_i39_i27 x hy hx) (fun _ h => mr (mr (mr (ml h))))
  have hBg20 := hBg20.chg hc41 ((fun x (hx : x ∈ [g20]) (hy : x ∈ [g37]) => p_i39_i22 x hy hx) g20 (by simp))
  have q_hn8 : g5 ∉ [g37] ++ (blkL ao35 ++ (blkL ao32 ++ (blkL ao27 ++ ([g20] ++ (blkL ao17 ++ (M)))))) := fun h => (o2 g5 h).elim hn8 (fun h => absurd (lt_cell (hE7 0 _ rfl)) (Nat.not_lt.2 h))
  have hE7 : ∀ j v, (cS_api_Tunnel a0 ao1 cap1)[j]? = some v → w40.cell? ⟨g5, 0 + j, none⟩ = some v := fun j v hv => (cell_keep hc41 o1 hn8 (hE7 j v hv))
  have hn8 := q_hn8
  have hM : MS ([g37] ++ (blkL ao35 ++ (blkL ao32 ++ (blkL ao27 ++ ([g20] ++ (blkL ao17 ++ (M))))))) w40 := (hM.chg hc41)
  have hC := hC.trans hc41 (fun x h => .inr (e_i39 x h))
  have hBg37 : Box w40 g37 (cS_api_Tunnel t34.1 ao35 cap35) := hb2
  refine seg ha 1 [(1, .slice ao2 a1.length cap2), (2, .pointer (some ⟨g5, 0, none⟩)), (5, .bool t10), (6, .slice ao17 t16.length cap17), (7, .pointer (some ⟨g20, 0, none⟩)), (8, .slice ao32 t31.1.length cap32), (9, .int .i64 t31.2), (10, .pointer (some ⟨g37, 0, none⟩)), (11, .int .i64 t34.2)] (by kernel_rfl) fun a ha => ?_
  refine hK33 _ _ ?_; try clear hK33 K33
  refine wp_seq_k fun K42 hK42 => ?_
  refine wp_region_lit ?_
  obtain ⟨s43, H43, H⟩ := bind_some H
  have J43 : ∀ (a : Act) (w43 : World), Has a Tryd.f3.ntmps [(1, .slice ao2 a1.length cap2), (2, .pointer (some ⟨g5, 0, none⟩)), (5, .bool t10), (6, .slice ao17 t16.length cap17), (7, .pointer (some ⟨g20, 0, none⟩)), (8, .slice ao32 t31.1.length cap32), (9, .int .i64 t31.2), (10, .pointer (some ⟨g37, 0, none⟩)), (11, .int .i64 t34.2), (12, .bool s43)] → (RSl (rInt .u8) 5 w43 ([g37] ++ (blkL ao35 ++ (blkL ao32 ++ (blkL ao27 ++ ([g20] ++ (blkL ao17 ++ (M))))))) ao2 cap2 a1) → (RSl (rInt .u8) 5 w43 ([g37] ++ (blkL ao35 ++ (blkL ao32 ++ (blkL ao27 ++ ([g20] ++ (blkL ao17 ++ (M))))))) ao1 cap1 a0.Id) → (Len w43 ([g37] ++ (blkL ao35 ++ (blkL ao32 ++ (blkL ao27 ++ ([g20] ++ (blkL ao17 ++ (M))))))) ao17 cap17 t16) → (Own (rInt .u8) 5 w43 ([g37] ++ (blkL ao35 ++ (blkL ao32 ++ (blkL ao27 ++ ([g20] ++ (blkL ao17 ++ (M))))))) ao32 cap32 t31.1) → (Len w43 ([g37] ++ (blkL ao35 ++ (blkL ao32 ++ (blkL ao27 ++ ([g20] ++ (blkL ao17 ++ (M))))))) ao27 cap27 t26) → (Own (rInt .u8) 5 w43 ([g37] ++ (blkL ao35 ++ (blkL ao32 ++ (blkL ao27 ++ ([g20] ++ (blkL ao17 ++ (M))))))) ao35 cap35 t34.1.Id) → (Box w43 g20 (cS_api_Tunnel (⟨a0.Leaf, a0.Kind, a0.Label, a0.Root, t26⟩ : S_api_Tunnel) ao27 cap27)) → (Box w43 g37 (cS_api_Tunnel t34.1 ao35 cap35)) → (∀ j v, (cS_api_Tunnel a0 ao1 cap1)[j]? = some v → w43.cell? ⟨g5, 0 + j, none⟩ = some v) → (g5 ∉ ([g37] ++ (blkL ao35 ++ (blkL ao32 ++ (blkL ao27 ++ ([g20] ++ (blkL ao17 ++ (M)))))))) → (Chg [] w w43) → (MS ([g37] ++ (blkL ao35 ++ (blkL ao32 ++ (blkL ao27 ++ ([g20] ++ (blkL ao17 ++ (M))))))) w43) → K42 a w43 := by
   intro a w43 ha f2 f1 f17 f32 f27 f35 hBg20 hBg37 hE7 hn8 hC hM
   refine hK42 _ _ ?_; try clear hK42 K42
   refine wp_seq_k fun K44 hK44 => ?_
   refine wp_region_lit ?_
   refine ldA (cs := (cS_api_Tunnel a0 ao1 cap1)) ha rfl (by kernel_rfl) rfl rfl rfl (cells_sub hE7 (all := (cS_api_Tunnel a0 ao1 cap1)) [] [] (by kernel_rfl)) fun a ha => ?_
   obtain ⟨t45, H45, H⟩ := bind_some H
   refine cl ha (by rfl) (by kernel_rfl) (by rfl) (by rfl) (by rfl) (vineryref06_Bytes.walk w43 _ hM a0 ao1 cap1 f1 k _ H45) ?_
   rintro _ w45 ⟨ao46, cap46, rfl, f46, ne_i46, hc45, hMn⟩ a ha
   have o1 : Ok [] ([g37] ++ (blkL ao35 ++ (blkL ao32 ++ (blkL ao27 ++ ([g20] ++ (blkL ao17 ++ (M))))))) w43.heap.size := Ok.nil _ _
   have o2 : Ok (blkL ao46 ++ ([g37] ++ (blkL ao35 ++ (blkL ao32 ++ (blkL ao27 ++ ([g20] ++ (blkL ao17 ++ (M)))))))) ([g37] ++ (blkL ao35 ++ (blkL ao32 ++ (blkL ao27 ++ ([g20] ++ (blkL ao17 ++ (M))))))) w43.heap.size := (Ok.app (fun x h => .inr (ne_i46 x h)) (Ok.refl _ _))
   have f2 := f2.chg hc45 o1 o2
   have f1 := f1.chg hc45 o1 o2
   have f17 := f17.chg hc45 o1 o2 (fun _ _ h => nomatch h) (fun _ h => mr (mr (mr (mr (mr (mr (ml h)))))))
   have f32 := f32.chg hc45 o1 o2 (fun _ _ h => nomatch h) (fun _ h => mr (mr (mr (ml h))))
   have f27 := f27.chg hc45 o1 o2 (fun _ _ h => nomatch h) (fun _ h => mr (mr (mr (mr (ml h)))))
   have f35 := f35.chg hc45 o1 o2 (fun _ _ h => nomatch h) (fun _ h => mr (mr (ml h)))
   have hBg20 := hBg20.chg hc45 (fun h => nomatch h)
   have hBg37 := hBg37.chg hc45 (fun h => nomatch h)
   have q_hn8 : g5 ∉ blkL ao46 ++ ([g37] ++ (blkL ao35 ++ (blkL ao32 ++ (blkL ao27 ++ ([g20] ++ (blkL ao17 ++ (M))))))) := fun h => (o2 g5 h).elim hn8 (fun h => absurd (lt_cell (hE7 0 _ rfl)) (Nat.not_lt.2 h))
   have hE7 : ∀ j v, (cS_api_Tunnel a0 ao1 cap1)[j]? = some v → w45.cell? ⟨g5, 0 + j, none⟩ = some v := fun j v hv => (cell_keep hc45 o1 hn8 (hE7 j v hv))
   have hn8 := q_hn8
   have p_i46_i39 : ∀ x ∈ blkL ao46, x ∉ ([g37]) := fun x hx hy => absurd (hM x (ml hy)) (Nat.not_lt.2 (ne_i46 x hx))
   have p_i46_i35 : ∀ x ∈ blkL ao46, x ∉ (blkL ao35) := fun x hx hy => absurd (hM x (mr (ml hy))) (Nat.not_lt.2 (ne_i46 x hx))
   have p_i46_i32 : ∀ x ∈ blkL ao46, x ∉ (blkL ao32) := fun x hx hy => absurd (hM x (mr (mr (ml hy)))) (Nat.not_lt.2 (ne_i46 x hx))
   have p_i46_i27 : ∀ x ∈ blkL ao46, x ∉ (blkL ao27) := fun x hx hy => absurd (hM x (mr (mr (mr (ml hy))))) (Nat.not_lt.2 (ne_i46 x hx))
   have p_i46_i22 : ∀ x ∈ blkL ao46, x ∉ ([g20]) := fun x hx hy => absurd (hM x (mr (mr (mr (mr (ml hy)))))) (Nat.not_lt.2 (ne_i46 x hx))
   have p_i46_i17 : ∀ x ∈ blkL ao46, x ∉ (blkL ao17) := fun x hx hy => absurd (hM x (mr (mr (mr (mr (mr (ml hy))))))) (Nat.not_lt.2 (ne_i46 x hx))
   have p_i46_M : ∀ x ∈ blkL ao46, x ∉ M := fun x hx hy => absurd (hM x (mr (mr (mr (mr (mr (mr (hy)))))))) (Nat.not_lt.2 (ne_i46 x hx))
   have e_i46 : ∀ x ∈ blkL ao46, w.heap.size ≤ x := fun x hx => Nat.le_trans hC.size (ne_i46 x hx)
   have hM : MS (blkL ao46 ++ ([g37] ++ (blkL ao35 ++ (blkL ao32 ++ (blkL ao27 ++ ([g20] ++ (blkL ao17 ++ (M)))))))) w45 := (MS.app (fun x h => hMn x (ml h)) (hM.chg hc45))
   have hC := hC.trans hc45 (Ok.nil _ _)
   refine seg ha 5 [(1, .slice ao2 a1.length cap2), (2, .pointer (some ⟨g5, 0, none⟩)), (5, .bool t10), (6, .slice ao17 t16.length cap17), (7, .pointer (some ⟨g20, 0, none⟩)), (8, .slice ao32 t31.1.length cap32), (9, .int .i64 t31.2), (10, .pointer (some ⟨g37, 0, none⟩)), (11, .int .i64 t34.2), (12, .bool s43), (13, .slice ao46 t45.1.length cap46), (14, .int .i64 t45.2)] (by kernel_rfl) fun a ha => ?_
   refine hK44 _ _ ?_; try clear hK44 K44
   refine wp_seq_k fun K47 hK47 => ?_
   refine wp_region_lit ?_
   refine seg ha 1 [(2, .pointer (some ⟨g5, 0, none⟩)), (5, .bool t10), (6, .slice ao17 t16.length cap17), (7, .pointer (some ⟨g20, 0, none⟩)), (8, .slice ao32 t31.1.length cap32), (9, .int .i64 t31.2), (10, .pointer (some ⟨g37, 0, none⟩)), (11, .int .i64 t34.2), (12, .bool s43), (13, .slice ao46 t45.1.length cap46), (14, .int .i64 t45.2), (63, .slice ao2 a1.length cap2)] (by kernel_rfl) fun a ha => ?_
   obtain ⟨t48, H48, H⟩ := bind_some H
   refine cl ha (by rfl) (by kernel_rfl) (by rfl) (by rfl) (by rfl) (vineryref06_Parse.walk w45 _ hM a1 ao2 cap2 f2 k _ H48) ?_
   rintro _ w48 ⟨ao49, cap49, rfl, f49, ne_i49, hc48, hMn⟩ a ha
   have o1 : Ok [] (blkL ao46 ++ ([g37] ++ (blkL ao35 ++ (blkL ao32 ++ (blkL ao27 ++ ([g20] ++ (blkL ao17 ++ (M)))))))) w45.heap.size := Ok.nil _ _
   have o2 : Ok (blkL ao49 ++ (blkL ao46 ++ ([g37] ++ (blkL ao35 ++ (blkL ao32 ++ (blkL ao27 ++ ([g20] ++ (blkL ao17 ++ (M))))))))) (blkL ao46 ++ ([g37] ++ (blkL ao35 ++ (blkL ao32 ++ (blkL ao27 ++ ([g20] ++ (blkL ao17 ++ (M)))))))) w45.heap.size := (Ok.app (fun x h => .inr (ne_i49 x h)) (Ok.refl _ _))
   have f1 := f1.chg hc48 o1 o2
   have f17 := f17.chg hc48 o1 o2 (fun _ _ h => nomatch h) (fun _ h => mr (mr (mr (mr (mr (mr (mr (ml h))))))))
   have f32 := f32.chg hc48 o1 o2 (fun _ _ h => nomatch h) (fun _ h => mr (mr (mr (mr (ml h)))))
   have f46 := f46.chg hc48 o1 o2 (fun _ _ h => nomatch h) (fun _ h => mr (ml h))
   have f2 := f2.chg hc48 o1 o2
   have f27 := f27.chg hc48 o1 o2 (fun _ _ h => nomatch h) (fun _ h => mr (mr (mr (mr (mr (ml h))))))
   have f35 := f35.chg hc48 o1 o2 (fun _ _ h => nomatch h) (fun _ h => mr (mr (mr (ml h))))
   have hBg20 := hBg20.chg hc48 (fun h => nomatch h)
   have hBg37 := hBg37.chg hc48 (fun h => nomatch h)
   have q_hn8 : g5 ∉ blkL ao49 ++ (blkL ao46 ++ ([g37] ++ (blkL ao35 ++ (blkL ao32 ++ (blkL ao27 ++ ([g20] ++ (blkL ao17 ++ (M)))))))) := fun h => (o2 g5 h).elim hn8 (fun h => absurd (lt_cell (hE7 0 _ rfl)) (Nat.not_lt.2 h))
   have hE7 : ∀ j v, (cS_api_Tunnel a0 ao1 cap1)[j]? = some v → w48.cell? ⟨g5, 0 + j, none⟩ = some v := fun j v hv => (cell_keep hc48 o1 hn8 (hE7 j v hv))
   have hn8 := q_hn8
   have p_i49_i46 : ∀ x ∈ blkL ao49, x ∉ (blkL ao46) := fun x hx hy => absurd (hM x (ml hy)) (Nat.not_lt.2 (ne_i49 x hx))
   have p_i49_i39 : ∀ x ∈ blkL ao49, x ∉ ([g37]) := fun x hx hy => absurd (hM x (mr (ml hy))) (Nat.not_lt.2 (ne_i49 x hx))
   have p_i49_i35 : ∀ x ∈ blkL ao49, x ∉ (blkL ao35) := fun x hx hy => absurd (hM x (mr (mr (ml hy)))) (Nat.not_lt.2 (ne_i49 x hx))
   have p_i49_i32 : ∀ x ∈ blkL ao49, x ∉ (blkL ao32) := fun x hx hy => absurd (hM x (mr (mr (mr (ml hy))))) (Nat.not_lt.2 (ne_i49 x hx))
   have p_i49_i27 : ∀ x ∈ blkL ao49, x ∉ (blkL ao27) := fun x hx hy => absurd (hM x (mr (mr (mr (mr (ml hy)))))) (Nat.not_lt.2 (ne_i49 x hx))
   have p_i49_i22 : ∀ x ∈ blkL ao49, x ∉ ([g20]) := fun x hx hy => absurd (hM x (mr (mr (mr (mr (mr (ml hy))))))) (Nat.not_lt.2 (ne_i49 x hx))
   have p_i49_i17 : ∀ x ∈ blkL ao49, x ∉ (blkL ao17) := fun x hx hy => absurd (hM x (mr (mr (mr (mr (mr (mr (ml hy)))))))) (Nat.not_lt.2 (ne_i49 x hx))
   have p_i49_M : ∀ x ∈ blkL ao49, x ∉ M := fun x hx hy => absurd (hM x (mr (mr (mr (mr (mr (mr (mr (hy))))))))) (Nat.not_lt.2 (ne_i49 x hx))
   have e_i49 : ∀ x ∈ blkL ao49, w.heap.size ≤ x := fun x hx => Nat.le_trans hC.size (ne_i49 x hx)
   have hM : MS (blkL ao49 ++ (blkL ao46 ++ ([g37] ++ (blkL ao35 ++ (blkL ao32 ++ (blkL ao27 ++ ([g20] ++ (blkL ao17 ++ (M))))))))) w48 := (MS.app (fun x h => hMn x (ml h)) (hM.chg hc48))
   have hC := hC.trans hc48 (Ok.nil _ _)
   refine seg ha 3 [(2, .pointer (some ⟨g5, 0, none⟩)), (5, .bool t10), (6, .slice ao17 t16.length cap17), (7, .pointer (some ⟨g20, 0, none⟩)), (8, .slice ao32 t31.1.length cap32), (9, .int .i64 t31.2), (10, .pointer (some ⟨g37, 0, none⟩)), (11, .int .i64 t34.2), (12, .bool s43), (13, .slice ao46 t45.1.length cap46), (14, .int .i64 t45.2), (65, .agg (cS_api_Tunnel t48.1 ao49 cap49).toArray), (66, .int .i64 t48.2)] (by kernel_rfl) fun a ha => ?_
   refine al (cs := (cS_api_Tunnel (⟨false, (0 : Int), (0 : Int), (⟨(0 : Int), (List.replicate 16 (0 : Int))⟩ : S_api_Addr), ([] : List Int)⟩ : S_api_Tunnel) none 0)) (z := .agg (cS_api_Tunnel (⟨false, (0 : Int), (0 : Int), (⟨(0 : Int), (List.replicate 16 (0 : Int))⟩ : S_api_Addr), ([] : List Int)⟩ : S_api_Tunnel) none 0).toArray) ha (fun w => by kernel_rfl) rfl rfl rfl rfl fun a w50 g51 hN52 ha => ?_
   have o1 : Ok [] (blkL ao49 ++ (blkL ao46 ++ ([g37] ++ (blkL ao35 ++ (blkL ao32 ++ (blkL ao27 ++ ([g20] ++ (blkL ao17 ++ (M))))))))) w48.heap.size := Ok.nil _ _
   have o2 : Ok ([g51] ++ (blkL ao49 ++ (blkL ao46 ++ ([g37] ++ (blkL ao35 ++ (blkL ao32 ++ (blkL ao27 ++ ([g20] ++ (blkL ao17 ++ (M)))))))))) (blkL ao49 ++ (blkL ao46 ++ ([g37] ++ (blkL ao35 ++ (blkL ao32 ++ (blkL ao27 ++ ([g20] ++ (blkL ao17 ++ (M))))))))) w48.heap.size := (Ok.app (hN52.ok _) (Ok.refl _ _))
   have f1 := f1.chg hN52.chg o1 o2
   have f17 := f17.chg hN52.chg o1 o2 (fun _ _ h => nomatch h) (fun _ h => mr (mr (mr (mr (mr (mr (mr (mr (ml h)))))))))
   have f32 := f32.chg hN52.chg o1 o2 (fun _ _ h => nomatch h) (fun _ h => mr (mr (mr (mr (mr (ml h))))))
   have f46 := f46.chg hN52.chg o1 o2 (fun _ _ h => nomatch h) (fun _ h => mr (mr (ml h)))
   have f49 := f49.chg hN52.chg o1 o2 (fun _ _ h => nomatch h) (fun _ h => mr (ml h))
   have f27 := f27.chg hN52.chg o1 o2 (fun _ _ h => nomatch h) (fun _ h => mr (mr (mr (mr (mr (mr (ml h)))))))
   have f35 := f35.chg hN52.chg o1 o2 (fun _ _ h => nomatch h) (fun _ h => mr (mr (mr (mr (ml h)))))
   have hBg20 := hBg20.chg hN52.chg (fun h => nomatch h)
   have hBg37 := hBg37.chg hN52.chg (fun h => nomatch h)
   have q_hn8 : g5 ∉ [g51] ++ (blkL ao49 ++ (blkL ao46 ++ ([g37] ++ (blkL ao35 ++ (blkL ao32 ++ (blkL ao27 ++ ([g20] ++ (blkL ao17 ++ (M))))))))) := fun h => (o2 g5 h).elim hn8 (fun h => absurd (lt_cell (hE7 0 _ rfl)) (Nat.not_lt.2 h))
   have hE7 : ∀ j v, (cS_api_Tunnel a0 ao1 cap1)[j]? = some v → w50.cell? ⟨g5, 0 + j, none⟩ = some v := fun j v hv => (cell_keep hN52.chg o1 hn8 (hE7 j v hv))
   have hn8 := q_hn8
   have p_i53_i49 : ∀ x ∈ [g51], x ∉ (blkL ao49) := fun x hx hy => absurd (hM x (ml hy)) (Nat.not_lt.2 ((hN52.ge1) x hx))
   have p_i53_i46 : ∀ x ∈ [g51], x ∉ (blkL ao46) := fun x hx hy => absurd (hM x (mr (ml hy))) (Nat.not_lt.2 ((hN52.ge1) x hx))
   have p_i53_i39 : ∀ x ∈ [g51], x ∉ ([g37]) := fun x hx hy => absurd (hM x (mr (mr (ml hy)))) (Nat.not_lt.2 ((hN52.ge1) x hx))
   have p_i53_i35 : ∀ x ∈ [g51], x ∉ (blkL ao35) := fun x hx hy => absurd (hM x (mr (mr (mr (ml hy))))) (Nat.not_lt.2 ((hN52.ge1) x hx))
   have p_i53_i32 : ∀ x ∈ [g51], x ∉ (blkL ao32) := fun x hx hy => absurd (hM x (mr (mr (mr (mr (ml hy)))))) (Nat.not_lt.2 ((hN52.ge1) x hx))
   have p_i53_i27 : ∀ x ∈ [g51], x ∉ (blkL ao27) := fun x hx hy => absurd (hM x (mr (mr (mr (mr (mr (ml hy))))))) (Nat.not_lt.2 ((hN52.ge1) x hx))
   have p_i53_i22 : ∀ x ∈ [g51], x ∉ ([g20]) := fun x hx hy => absurd (hM x (mr (mr (mr (mr (mr (mr (ml hy)))))))) (Nat.not_lt.2 ((hN52.ge1) x hx))
   have p_i53_i17 : ∀ x ∈ [g51], x ∉ (blkL ao17) := fun x hx hy => absurd (hM x (mr (mr (mr (mr (mr (mr (mr (ml hy))))))))) (Nat.not_lt.2 ((hN52.ge1) x hx))
   have p_i53_M : ∀ x ∈ [g51], x ∉ M := fun x hx hy => absurd (hM x (mr (mr (mr (mr (mr (mr (mr (mr (hy)))))))))) (Nat.not_lt.2 ((hN52.ge1) x hx))
   have e_i53 : ∀ x ∈ [g51], w.heap.size ≤ x := fun x hx => Nat.le_trans hC.size ((hN52.ge1) x hx)
   have hM : MS ([g51] ++ (blkL ao49 ++ (blkL ao46 ++ ([g37] ++ (blkL ao35 ++ (blkL ao32 ++ (blkL ao27 ++ ([g20] ++ (blkL ao17 ++ (M)))))))))) w50 := (MS.app hN52.ms (hM.chg hN52.chg))
   have hC := hC.trans hN52.chg (Ok.nil _ _)
   have hBg51 : Box w50 g51 (cS_api_Tunnel (⟨false, (0 : Int), (0 : Int), (⟨(0 : Int), (List.replicate 16 (0 : Int))⟩ : S_api_Addr), ([] : List Int)⟩ : S_api_Tunnel) none 0) := hN52.box
   refine stA (l := (cS_api_Tunnel t48.1 ao49 cap49)) ha rfl rfl rfl (by kernel_rfl) rfl rfl hBg51 rfl fun a w54 ha hb2 hc55 _ => ?_
   have o1 : Ok [g51] ([g51] ++ (blkL ao49 ++ (blkL ao46 ++ ([g37] ++ (blkL ao35 ++ (blkL ao32 ++ (blkL ao27 ++ ([g20] ++ (blkL ao17 ++ (M)))))))))) w50.heap.size := (fun _ h => .inl (ml h))
   have o2 : Ok ([g51] ++ (blkL ao49 ++ (blkL ao46 ++ ([g37] ++ (blkL ao35 ++ (blkL ao32 ++ (blkL ao27 ++ ([g20] ++ (blkL ao17 ++ (M)))))))))) ([g51] ++ (blkL ao49 ++ (blkL ao46 ++ ([g37] ++ (blkL ao35 ++ (blkL ao32 ++ (blkL ao27 ++ ([g20] ++ (blkL ao17 ++ (M)))))))))) w50.heap.size := (Ok.refl _ _)
   have f1 := f1.chg hc55 o1 o2
   have f17 := f17.chg hc55 o1 o2 (fun x (hx : x ∈ blkL ao17) (hy : x ∈ [g51]) => p_i53_i17 x hy hx) (fun _ h => mr (mr (mr (mr (mr (mr (mr (mr (ml h)))))))))
   have f32 := f32.chg hc55 o1 o2 (fun x (hx : x ∈ blkL ao32) (hy : x ∈ [g51]) => p_i53_i32 x hy hx) (fun _ h => mr (mr (mr (mr (mr (ml h))))))
   have f46 := f46.chg hc55 o1 o2 (fun x (hx : x ∈ blkL ao46) (hy : x ∈ [g51]) => p_i53_i46 x hy hx) (fun _ h => mr (mr (ml h)))
   have f49 := f49.chg hc55 o1 o2 (fun x (hx : x ∈ blkL ao49) (hy : x ∈ [g51]) => p_i53_i49 x hy hx) (fun _ h => mr (ml h))
   have f27 := f27.chg hc55 o1 o2 (fun x (hx : x ∈ blkL ao27) (hy : x ∈ [g51]) => p_i53_i27 x hy hx) (fun _ h => mr (mr (mr (mr (mr (mr (ml h)))))))
   have f35 := f35.chg hc55 o1 o2 (fun x (hx : x ∈ blkL ao35) (hy : x ∈ [g51]) => p_i53_i35 x hy hx) (fun _ h => mr (mr (mr (mr (ml h)))))
   have hBg20 := hBg20.chg hc55 ((fun x (hx : x ∈ [g20]) (hy : x ∈ [g51]) => p_i53_i22 x hy hx) g20 (by simp))
   have hBg37 := hBg37.chg hc55 ((fun x (hx : x ∈ [g37]) (hy : x ∈ [g51]) => p_i53_i39 x hy hx) g37 (by simp))
   have q_hn8 : g5 ∉ [g51] ++ (blkL ao49 ++ (blkL ao46 ++ ([g37] ++ (blkL ao35 ++ (blkL ao32 ++ (blkL ao27 ++ ([g20] ++ (blkL ao17 ++ (M))))))))) := fun h => (o2 g5 h).elim hn8 (fun h => absurd (lt_cell (hE7 0 _ rfl)) (Nat.not_lt.2 h))
   have hE7 : ∀ j v, (cS_api_Tunnel a0 ao1 cap1)[j]? = some v → w54.cell? ⟨g5, 0 + j, none⟩ = some v := fun j v hv => (cell_keep hc55 o1 hn8 (hE7 j v hv))
   have hn8 := q_hn8
   have hM : MS ([g51] ++ (blkL ao49 ++ (blkL ao46 ++ ([g37] ++ (blkL ao35 ++ (blkL ao32 ++ (blkL ao27 ++ ([g20] ++ (blkL ao17 ++ (M)))))))))) w54 := (hM.chg hc55)
   have hC := hC.trans hc55 (fun x h => .inr (e_i53 x h))
   have hBg51 : Box w54 g51 (cS_api_Tunnel t48.1 ao49 cap49) := hb2
   refine seg ha 1 [(2, .pointer (some ⟨g5, 0, none⟩)), (5, .bool t10), (6, .slice ao17 t16.length cap17), (7, .pointer (some ⟨g20, 0, none⟩)), (8, .slice ao32 t31.1.length cap32), (9, .int .i64 t31.2), (10, .pointer (some ⟨g37, 0, none⟩)), (11, .int .i64 t34.2), (12, .bool s43), (13, .slice ao46 t45.1.length cap46), (14, .int .i64 t45.2), (15, .pointer (some ⟨g51, 0, none⟩)), (16, .int .i64 t48.2)] (by kernel_rfl) fun a ha => ?_
   refine hK47 _ _ ?_; try clear hK47 K47
   refine wp_seq_k fun K56 hK56 => ?_
   refine wp_region_lit ?_
   obtain ⟨s57, H57, H⟩ := bind_some H
   have J57 : ∀ (a : Act) (w57 : World), Has a Tryd.f3.ntmps [(2, .pointer (some ⟨g5, 0, none⟩)), (5, .bool t10), (6, .slice ao17 t16.length cap17), (7, .pointer (some ⟨g20, 0, none⟩)), (8, .slice ao32 t31.1.length cap32), (9, .int .i64 t31.2), (10, .pointer (some ⟨g37, 0, none⟩)), (11, .int .i64 t34.2), (12, .bool s43), (14, .int .i64 t45.2), (16, .int .i64 t48.2), (17, .bool s57)] → (RSl (rInt .u8) 5 w57 ([g51] ++ (blkL ao49 ++ ([g37] ++ (blkL ao35 ++ (blkL ao32 ++ (blkL ao27 ++ ([g20] ++ (blkL ao17 ++ (M))))))))) ao1 cap1 a0.Id) → (Len w57 ([g51] ++ (blkL ao49 ++ ([g37] ++ (blkL ao35 ++ (blkL ao32 ++ (blkL ao27 ++ ([g20] ++ (blkL ao17 ++ (M))))))))) ao17 cap17 t16) → (Own (rInt .u8) 5 w57 ([g51] ++ (blkL ao49 ++ ([g37] ++ (blkL ao35 ++ (blkL ao32 ++ (blkL ao27 ++ ([g20] ++ (blkL ao17 ++ (M))))))))) ao32 cap32 t31.1) → (Len w57 ([g51] ++ (blkL ao49 ++ ([g37] ++ (blkL ao35 ++ (blkL ao32 ++ (blkL ao27 ++ ([g20] ++ (blkL ao17 ++ (M))))))))) ao27 cap27 t26) → (Own (rInt .u8) 5 w57 ([g51] ++ (blkL ao49 ++ ([g37] ++ (blkL ao35 ++ (blkL ao32 ++ (blkL ao27 ++ ([g20] ++ (blkL ao17 ++ (M))))))))) ao35 cap35 t34.1.Id) → (Own (rInt .u8) 5 w57 ([g51] ++ (blkL ao49 ++ ([g37] ++ (blkL ao35 ++ (blkL ao32 ++ (blkL ao27 ++ ([g20] ++ (blkL ao17 ++ (M))))))))) ao49 cap49 t48.1.Id) → (Box w57 g20 (cS_api_Tunnel (⟨a0.Leaf, a0.Kind, a0.Label, a0.Root, t26⟩ : S_api_Tunnel) ao27 cap27)) → (Box w57 g37 (cS_api_Tunnel t34.1 ao35 cap35)) → (Box w57 g51 (cS_api_Tunnel t48.1 ao49 cap49)) → (∀ j v, (cS_api_Tunnel a0 ao1 cap1)[j]? = some v → w57.cell? ⟨g5, 0 + j, none⟩ = some v) → (g5 ∉ ([g51] ++ (blkL ao49 ++ ([g37] ++ (blkL ao35 ++ (blkL ao32 ++ (blkL ao27 ++ ([g20] ++ (blkL ao17 ++ (M)))))))))) → (Chg [] w w57) → (MS ([g51] ++ (blkL ao49 ++ ([g37] ++ (blkL ao35 ++ (blkL ao32 ++ (blkL ao27 ++ ([g20] ++ (blkL ao17 ++ (M))))))))) w57) → K56 a w57 := by
    intro a w57 ha f1 f17 f32 f27 f35 f49 hBg20 hBg37 hBg51 hE7 hn8 hC hM
    refine hK56 _ _ ?_; try clear hK56 K56
    refine wp_seq_k fun K58 hK58 => ?_
    refine wp_region_lit ?_
    refine seg ha 2 [(2, .pointer (some ⟨g5, 0, none⟩)), (5, .bool t10), (6, .slice ao17 t16.length cap17), (7, .pointer (some ⟨g20, 0, none⟩)), (9, .int .i64 t31.2), (11, .int .i64 t34.2), (12, .bool s43), (14, .int .i64 t45.2), (16, .int .i64 t48.2), (17, .bool s57), (77, .slice ao32 t31.1.length cap32), (78, .pointer (some ⟨g37, 20, none⟩))] (by kernel_rfl) fun a ha => ?_
    refine ld (v := .slice ao35 t34.1.Id.length cap35) ha rfl (by kernel_rfl) rfl rfl rfl (hBg37.cell' (o := 20) rfl (by kernel_rfl)) fun a ha => ?_
    refine seg ha 2 [(2, .pointer (some ⟨g5, 0, none⟩)), (5, .bool t10), (9, .int .i64 t31.2), (11, .int .i64 t34.2), (12, .bool s43), (14, .int .i64 t45.2), (16, .int .i64 t48.2), (17, .bool s57), (77, .slice ao32 t31.1.length cap32), (79, .slice ao35 t34.1.Id.length cap35), (80, .slice ao17 t16.length cap17), (81, .pointer (some ⟨g20, 20, none⟩))] (by kernel_rfl) fun a ha => ?_
    refine ld (v := .slice ao27 t26.length cap27) ha rfl (by kernel_rfl) rfl rfl rfl (hBg20.cell' (o := 20) rfl (by kernel_rfl)) fun a ha => ?_
    refine bsl (vals := ([.slice ao32 t31.1.length cap32, .slice ao35 t34.1.Id.length cap35, .slice ao17 t16.length cap17, .slice ao27 t26.length cap27] : List Value)) (T := 25) ha rfl (([.slice ao32 t31.1.length cap32] : List Value) ++ (([.slice ao35 t34.1.Id.length cap35] : List Value) ++ (([.slice ao17 t16.length cap17] : List Value) ++ (([.slice ao27 t26.length cap27] : List Value) ++ ([] : List Value))))) (fun w => by kernel_rfl) rfl rfl rfl fun a w59 g60 hN61 ha => ?_
    have hgr62 : ∀ x ∈ ([g51] ++ (blkL ao49 ++ ([g37] ++ (blkL ao35 ++ (blkL ao32 ++ (blkL ao27 ++ ([g20] ++ (blkL ao17 ++ (M))))))))), x ≠ g60 := fun x h e => absurd (hM x h) (Nat.not_lt.2 (by rw [e]; exact hN61.ge))
    have o1 : Ok [] ([g51] ++ (blkL ao49 ++ ([g37] ++ (blkL ao35 ++ (blkL ao32 ++ (blkL ao27 ++ ([g20] ++ (blkL ao17 ++ (M))))))))) w57.heap.size := Ok.nil _ _
    have o2 : Ok ([g51] ++ (blkL ao49 ++ ([g37] ++ (blkL ao35 ++ (blkL ao32 ++ (blkL ao27 ++ ([g20] ++ (blkL ao17 ++ (M))))))))) ([g51] ++ (blkL ao49 ++ ([g37] ++ (blkL ao35 ++ (blkL ao32 ++ (blkL ao27 ++ ([g20] ++ (blkL ao17 ++ (M))))))))) w57.heap.size := (Ok.refl _ _)
    have f1 := f1.chg hN61.chg o1 o2
    have f32 := f32.chg hN61.chg o1 o2 (fun _ _ h => nomatch h) (fun _ h => mr (mr (mr (mr (ml h)))))
    have f35 := f35.chg hN61.chg o1 o2 (fun _ _ h => nomatch h) (fun _ h => mr (mr (mr (ml h))))
    have f17 := f17.chg hN61.chg o1 o2 (fun _ _ h => nomatch h) (fun _ h => mr (mr (mr (mr (mr (mr (mr (ml h))))))))
    have f27 := f27.chg hN61.chg o1 o2 (fun _ _ h => nomatch h) (fun _ h => mr (mr (mr (mr (mr (ml h))))))
    have f49 := f49.chg hN61.chg o1 o2 (fun _ _ h => nomatch h) (fun _ h => mr (ml h))
    have hBg20 := hBg20.chg hN61.chg (fun h => nomatch h)
    have hBg37 := hBg37.chg hN61.chg (fun h => nomatch h)
    have hBg51 := hBg51.chg hN61.chg (fun h => nomatch h)
    have q_hn8 : g5 ∉ [g51] ++ (blkL ao49 ++ ([g37] ++ (blkL ao35 ++ (blkL ao32 ++ (blkL ao27 ++ ([g20] ++ (blkL ao17 ++ (M)))))))) := fun h => (o2 g5 h).elim hn8 (fun h => absurd (lt_cell (hE7 0 _ rfl)) (Nat.not_lt.2 h))
    have hE7 : ∀ j v, (cS_api_Tunnel a0 ao1 cap1)[j]? = some v → w59.cell? ⟨g5, 0 + j, none⟩ = some v := fun j v hv => (cell_keep hN61.chg o1 hn8 (hE7 j v hv))
    have hn8 := q_hn8
    have hM : MS ([g51] ++ (blkL ao49 ++ ([g37] ++ (blkL ao35 ++ (blkL ao32 ++ (blkL ao27 ++ ([g20] ++ (blkL ao17 ++ (M))))))))) w59 := (hM.chg hN61.chg)
    have hC := hC.trans hN61.chg (Ok.nil _ _)
    have hB62 : Box w59 g60 ([.slice ao32 t31.1.length cap32, .slice ao35 t34.1.Id.length cap35, .slice ao17 t16.length cap17, .slice ao27 t26.length cap27] : List Value) := hN61.box
    refine cl ha (by rfl) (by kernel_rfl) (by rfl) (by rfl) (by rfl) (Owned.call w59 _ hM g60 [(ao32, t31.1.length, cap32), (ao35, t34.1.Id.length, cap35), (ao17, t16.length, cap17), (ao27, t26.length, cap27)] (blkL ao32 ++ blkL ao35 ++ blkL ao17 ++ blkL ao27) (List.forall_mem_cons.2 ⟨f32.rowOk, (List.forall_mem_cons.2 ⟨f35.rowOk, (List.forall_mem_cons.2 ⟨f17.rowOk, (List.forall_mem_cons.2 ⟨f27.rowOk, (fun _ h => nomatch h)⟩)⟩)⟩)⟩) (List.Pairwise.cons (List.forall_mem_cons.2 ⟨((fun x hx hy => p_i35_i32 x hy hx)), (List.forall_mem_cons.2 ⟨(p_i32_i17), (List.forall_mem_cons.2 ⟨(p_i32_i27), (fun _ h => nomatch h)⟩)⟩)⟩) (List.Pairwise.cons (List.forall_mem_cons.2 ⟨(p_i35_i17), (List.forall_mem_cons.2 ⟨(p_i35_i27), (fun _ h => nomatch h)⟩)⟩) (List.Pairwise.cons (List.forall_mem_cons.2 ⟨((fun x hx hy => p_i27_i17 x hy hx)), (fun _ h => nomatch h)⟩) (List.Pairwise.cons (fun _ h => nomatch h) List.Pairwise.nil)))) (List.forall_mem_cons.2 ⟨(fun h => hgr62 _ (mr (mr (mr (mr (ml h))))) rfl), (List.forall_mem_cons.2 ⟨(fun h => hgr62 _ (mr (mr (mr (ml h)))) rfl), (List.forall_mem_cons.2 ⟨(fun h => hgr62 _ (mr (mr (mr (mr (mr (mr (mr (ml h)))))))) rfl), (List.forall_mem_cons.2 ⟨(fun h => hgr62 _ (mr (mr (mr (mr (mr (ml h)))))) rfl), (fun _ h => nomatch h)⟩)⟩)⟩)⟩) hB62 (Nat.le_of_ble_eq_true rfl) (List.forall_mem_cons.2 ⟨(fun _ h => (List.mem_append_left _ (List.mem_append_left _ (List.mem_append_left _ h)))), (List.forall_mem_cons.2 ⟨(fun _ h => (List.mem_append_left _ (List.mem_append_left _ (List.mem_append_right _ h)))), (List.forall_mem_cons.2 ⟨(fun _ h => (List.mem_append_left _ (List.mem_append_right _ h))), (List.forall_mem_cons.2 ⟨(fun _ h => (List.mem_append_right _ h)), (fun _ h => nomatch h)⟩)⟩)⟩)⟩)) ?_
    rintro _ w63 ⟨rfl, hc63, _⟩ a ha
    have o1 : Ok (blkL ao32 ++ blkL ao35 ++ blkL ao17 ++ blkL ao27) ([g51] ++ (blkL ao49 ++ ([g37] ++ (blkL ao35 ++ (blkL ao32 ++ (blkL ao27 ++ ([g20] ++ (blkL ao17 ++ (M))))))))) w59.heap.size := (Ok.app (Ok.app (Ok.app (fun _ h => .inl (mr (mr (mr (mr (ml h)))))) (fun _ h => .inl (mr (mr (mr (ml h)))))) (fun _ h => .inl (mr (mr (mr (mr (mr (mr (mr (ml h)))))))))) (fun _ h => .inl (mr (mr (mr (mr (mr (ml h))))))))
    have o2 : Ok ([g51] ++ (blkL ao49 ++ ([g37] ++ ([g20] ++ (M))))) ([g51] ++ (blkL ao49 ++ ([g37] ++ (blkL ao35 ++ (blkL ao32 ++ (blkL ao27 ++ ([g20] ++ (blkL ao17 ++ (M))))))))) w59.heap.size := (Ok.app (fun _ h => .inl (ml h)) (Ok.app (fun _ h => .inl (mr (ml h))) (Ok.app (fun _ h => .inl (mr (mr (ml h)))) (Ok.app (fun _ h => .inl (mr (mr (mr (mr (mr (mr (ml h)))))))) (fun _ h => .inl (mr (mr (mr (mr (mr (mr (mr (mr (h))))))))))))))
    have f1 := f1.chg hc63 o1 o2
    have f49 := f49.chg hc63 o1 o2 (fun x (hx : x ∈ blkL ao49) (hy : x ∈ blkL ao32 ++ blkL ao35 ++ blkL ao17 ++ blkL ao27) => (List.mem_append.1 hy).elim (fun hy => (List.mem_append.1 hy).elim (fun hy => (List.mem_append.1 hy).elim (fun hy => p_i49_i32 x hx hy) (fun hy => p_i49_i35 x hx hy)) (fun hy => p_i49_i17 x hx hy)) (fun hy => p_i49_i27 x hx hy)) (fun _ h => mr (ml h))
    have hBg20 := hBg20.chg hc63 ((fun x (hx : x ∈ [g20]) (hy : x ∈ blkL ao32 ++ blkL ao35 ++ blkL ao17 ++ blkL ao27) => (List.mem_append.1 hy).elim (fun hy => (List.mem_append.1 hy).elim (fun hy => (List.mem_append.1 hy).elim (fun hy => (fun x (hx : x ∈ [g20]) (hy : x ∈ blkL ao32) => p_i32_i22 x hy hx) x hx hy) (fun hy => (fun x (hx : x ∈ [g20]) (hy : x ∈ blkL ao35) => p_i35_i22 x hy hx) x hx hy)) (fun hy => p_i22_i17 x hx hy)) (fun hy => (fun x (hx : x ∈ [g20]) (hy : x ∈ blkL ao27) => p_i27_i22 x hy hx) x hx hy)) g20 (by simp))
    have hBg37 := hBg37.chg hc63 ((fun x (hx : x ∈ [g37]) (hy : x ∈ blkL ao32 ++ blkL ao35 ++ blkL ao17 ++ blkL ao27) => (List.mem_append.1 hy).elim (fun hy => (List.mem_append.1 hy).elim (fun hy => (List.mem_append.1 hy).elim (fun hy => p_i39_i32 x hx hy) (fun hy => p_i39_i35 x hx hy)) (fun hy => p_i39_i17 x hx hy)) (fun hy => p_i39_i27 x hx hy)) g37 (by simp))
    have hBg51 := hBg51.chg hc63 ((fun x (hx : x ∈ [g51]) (hy : x ∈ blkL ao32 ++ blkL ao35 ++ blkL ao17 ++ blkL ao27) => (List.mem_append.1 hy).elim (fun hy => (List.mem_append.1 hy).elim (fun hy => (List.mem_append.1 hy).elim (fun hy => p_i53_i32 x hx hy) (fun hy => p_i53_i35 x hx hy)) (fun hy => p_i53_i17 x hx hy)) (fun hy => p_i53_i27 x hx hy)) g51 (by simp))
    have q_hn8 : g5 ∉ [g51] ++ (blkL ao49 ++ ([g37] ++ ([g20] ++ (M)))) := fun h => (o2 g5 h).elim hn8 (fun h => absurd (lt_cell (hE7 0 _ rfl)) (Nat.not_lt.2 h))
    have hE7 : ∀ j v, (cS_api_Tunnel a0 ao1 cap1)[j]? = some v → w63.cell? ⟨g5, 0 + j, none⟩ = some v := fun j v hv => (cell_keep hc63 o1 hn8 (hE7 j v hv))
    have hn8 := q_hn8
    have hM : MS ([g51] ++ (blkL ao49 ++ ([g37] ++ ([g20] ++ (M))))) w63 := (MS.app (fun x h => hM.chg hc63 x (ml h)) (MS.app (fun x h => hM.chg hc63 x (mr (ml h))) (MS.app (fun x h => hM.chg hc63 x (mr (mr (ml h)))) (MS.app (fun x h => hM.chg hc63 x (mr (mr (mr (mr (mr (mr (ml h)))))))) (fun x h => hM.chg hc63 x (mr (mr (mr (mr (mr (mr (mr (mr (h))))))))))))))
    have hC := hC.trans hc63 (Ok.app (Ok.app (Ok.app (fun x h => .inr (e_i32 x h)) (fun x h => .inr (e_i35 x h))) (fun x h => .inr (e_i17 x h))) (fun x h => .inr (e_i27 x h)))
    refine seg ha 1 [(2, .pointer (some ⟨g5, 0, none⟩)), (5, .bool t10), (9, .int .i64 t31.2), (11, .int .i64 t34.2), (12, .bool s43), (14, .int .i64 t45.2), (16, .int .i64 t48.2), (17, .bool s57), (18, .bool true)] (by kernel_rfl) fun a ha => ?_
    refine hK58 _ _ ?_; try clear hK58 K58
    refine wp_seq_k fun K64 hK64 => ?_
    refine drq0 (fun w' => Chg [] w63 w') (by kernel_rfl) (by kernel_rfl) (fun _ h => h) ?_
    obtain ⟨s65, H65, H⟩ := bind_some H
    have J65 : ∀ (a : Act) (w65 : World), Has a Tryd.f3.ntmps [(4, .bool s65)] → (Own (rInt .u8) 5 w65 ([g51] ++ (blkL ao49 ++ ([g37] ++ ([g20] ++ (M))))) ao49 cap49 t48.1.Id) → (Box w65 g20 (cS_api_Tunnel (⟨a0.Leaf, a0.Kind, a0.Label, a0.Root, t26⟩ : S_api_Tunnel) ao27 cap27)) → (Box w65 g37 (cS_api_Tunnel t34.1 ao35 cap35)) → (Box w65 g51 (cS_api_Tunnel t48.1 ao49 cap49)) → (Chg [] w w65) → (MS ([g51] ++ (blkL ao49 ++ ([g37] ++ ([g20] ++ (M))))) w65) → K64 a w65 := by
     intro a w65 ha f49 hBg20 hBg37 hBg51 hC hM
     refine hK64 _ _ ?_; try clear hK64 K64
     refine wp_ret ?_
     try simp only [Exit.then, Exit.inBlock]
     have hBg20 := hBg20.chg (Chg.refl [] _) (fun h => nomatch h)
     have hBg37 := hBg37.chg (Chg.refl [] _) (fun h => nomatch h)
     have hBg51 := hBg51.chg (Chg.refl [] _) (fun h => nomatch h)
     have hM : MS (M) w65 := (fun x h => hM.chg (Chg.refl [] _) x (mr (mr (mr (mr (h))))))
     have hC := hC.trans (Chg.refl [] _) (Ok.nil _ _)
     obtain rfl := Option.some.inj H
     refine rt1 ha rfl rfl ?_
     exact ⟨rfl, hC, hM⟩
    have H := H65
    refine qp 0 (.bool t10) ha rfl rfl rfl (by kernel_rfl) fun a ha => ?_
    refine qp 0 (.bool t10) ha rfl rfl rfl (by kernel_rfl) fun a ha => ?_
    have ha := ha.sel (env' := [(86, .bool t10), (2, .pointer (some ⟨g5, 0, none⟩)), (9, .int .i64 t31.2), (11, .int .i64 t34.2), (12, .bool s43), (14, .int .i64 t45.2), (16, .int .i64 t48.2), (17, .bool s57), (18, .bool true)]) (by kernel_rfl)
    rcases Bool.eq_false_or_eq_true (t10) with hb66 | hb66
    ·have ha := ha.lit hb66
     have H := ite_t hb66 H
     refine qp 0 (.bool s43) ha rfl rfl rfl (by kernel_rfl) fun a ha => ?_
     refine qp 3 (.bool s43) ha rfl rfl rfl (by kernel_rfl) fun a ha => ?_
     refine qp 0 (.bool s43) ha rfl rfl rfl (by kernel_rfl) fun a ha => ?_
     have ha := ha.sel (env' := [(89, .bool s43), (2, .pointer (some ⟨g5, 0, none⟩)), (9, .int .i64 t31.2), (11, .int .i64 t34.2), (14, .int .i64 t45.2), (16, .int .i64 t48.2), (17, .bool s57), (18, .bool true)]) (by kernel_rfl)
     rcases Bool.eq_false_or_eq_true (s43) with hb67 | hb67
     ·have ha := ha.lit hb67
      have H := ite_t hb67 H
      refine qp 0 (.bool s57) ha rfl rfl rfl (by kernel_rfl) fun a ha => ?_
      refine qp 3 (.bool s57) ha rfl rfl rfl (by kernel_rfl) fun a ha => ?_
      refine qp 0 (.bool s57) ha rfl rfl rfl (by kernel_rfl) fun a ha => ?_
      have ha := ha.sel (env' := [(92, .bool s57), (2, .pointer (some ⟨g5, 0, none⟩)), (9, .int .i64 t31.2), (11, .int .i64 t34.2), (14, .int .i64 t45.2), (16, .int .i64 t48.2), (18, .bool true)]) (by kernel_rfl)
      rcases Bool.eq_false_or_eq_true (s57) with hb68 | hb68
      ·have ha := ha.lit hb68
       have H := ite_t hb68 H
       refine qp 0 (.bool true) ha rfl rfl rfl (by kernel_rfl) fun a ha => ?_
       refine qp 3 (.bool true) ha rfl rfl rfl (by kernel_rfl) fun a ha => ?_
       refine qp 0 (.bool true) ha rfl rfl rfl (by kernel_rfl) fun a ha => ?_
       refine qp 0 (.int .i64 t31.2) ha rfl rfl rfl (by kernel_rfl) fun a ha => ?_
       refine qp 0 (.int .i64 t45.2) ha rfl rfl rfl (by kernel_rfl) fun a ha => ?_
       refine qp 0 (.bool (t31.2 == t45.2)) ha rfl rfl rfl (by kernel_rfl) fun a ha => ?_
       refine qp 3 (.bool (t31.2 == t45.2)) ha rfl rfl rfl (by kernel_rfl) fun a ha => ?_
       refine qp 0 (.bool (t31.2 == t45.2)) ha rfl rfl rfl (by kernel_rfl) fun a ha => ?_
       have ha := ha.sel (env' := [(100, .bool (t31.2 == t45.2)), (2, .pointer (some ⟨g5, 0, none⟩)), (11, .int .i64 t34.2), (16, .int .i64 t48.2)]) (by kernel_rfl)
       rcases Bool.eq_false_or_eq_true (t31.2 == t45.2) with hb69 | hb69
       ·have ha := ha.lit hb69
        have H := ite_t hb69 H
        refine qp 0 (.int .i64 t34.2) ha rfl rfl rfl (by kernel_rfl) fun a ha => ?_
        refine qp 0 (.int .i64 t48.2) ha rfl rfl rfl (by kernel_rfl) fun a ha => ?_
        refine qp 0 (.bool (t34.2 == t48.2)) ha rfl rfl rfl (by kernel_rfl) fun a ha => ?_
        refine qp 3 (.bool (t34.2 == t48.2)) ha rfl rfl rfl (by kernel_rfl) fun a ha => ?_
        refine qp 0 (.bool (t34.2 == t48.2)) ha rfl rfl rfl (by kernel_rfl) fun a ha => ?_
        have ha := ha.sel (env' := [(105, .bool (t34.2 == t48.2)), (2, .pointer (some ⟨g5, 0, none⟩))]) (by kernel_rfl)
        rcases Bool.eq_false_or_eq_true (t34.2 == t48.2) with hb70 | hb70
        ·have ha := ha.lit hb70
         have H := ite_t hb70 H
         refine qv (v := .agg (cS_api_Tunnel a0 ao1 cap1).toArray) ha rfl rfl rfl (fun w' hs => ldA_run (cs := (cS_api_Tunnel a0 ao1 cap1)) ha rfl (by kernel_rfl) (cells_sub (fun j v hv => hs.keep (hE7 j v hv)) (all := (cS_api_Tunnel a0 ao1 cap1)) [] [] (by kernel_rfl))) fun a ha => ?_
         obtain ⟨t71, H71, H⟩ := bind_some H
         refine qc (.bool t71) ha (by rfl) (by kernel_rfl) (by rfl) (by rfl) (by rfl) (fun w' hs => (pmsi_Right.walk w' _ (hM.chg hs) a0 ao1 cap1 (RSl.chg f1 hs (Ok.nil _ _) (Ok.refl _ _)) k _ H71).mono fun v w'' ⟨hv, hc, _⟩ => ⟨hv, hs.trans hc (Ok.nil _ _)⟩) fun a ha => ?_
         refine qv (v := .agg (cS_api_Tunnel a0 ao1 cap1).toArray) ha rfl rfl rfl (fun w' hs => ldA_run (cs := (cS_api_Tunnel a0 ao1 cap1)) ha rfl (by kernel_rfl) (cells_sub (fun j v hv => hs.keep (hE7 j v hv)) (all := (cS_api_Tunnel a0 ao1 cap1)) [] [] (by kernel_rfl))) fun a ha => ?_
         obtain ⟨t72, H72, H⟩ := bind_some H
         refine qc (.bool t72) ha (by rfl) (by kernel_rfl) (by rfl) (by rfl) (by rfl) (fun w' hs => (vineryref06_Right.walk w' _ (hM.chg hs) a0 ao1 cap1 (RSl.chg f1 hs (Ok.nil _ _) (Ok.refl _ _)) k _ H72).mono fun v w'' ⟨hv, hc, _⟩ => ⟨hv, hs.trans hc (Ok.nil _ _)⟩) fun a ha => ?_
         refine qp 0 (.bool (t71 == t72)) ha rfl rfl rfl (by kernel_rfl) fun a ha => ?_
         refine qp 3 (.bool (t71 == t72)) ha rfl rfl rfl (by kernel_rfl) fun a ha => ?_
         refine qp 0 (.bool (t71 == t72)) ha rfl rfl rfl (by kernel_rfl) fun a ha => ?_
         refine wpQuiet_nil ?_
         intro w73 hc74
         have o1 : Ok [] ([g51] ++ (blkL ao49 ++ ([g37] ++ ([g20] ++ (M))))) w63.heap.size := Ok.nil _ _
         have o2 : Ok ([g51] ++ (blkL ao49 ++ ([g37] ++ ([g20] ++ (M))))) ([g51] ++ (blkL ao49 ++ ([g37] ++ ([g20] ++ (M))))) w63.heap.size := (Ok.refl _ _)
         have f1 := f1.chg hc74 o1 o2
         have f49 := f49.chg hc74 o1 o2 (fun _ _ h => nomatch h) (fun _ h => mr (ml h))
         have hBg20 := hBg20.chg hc74 (fun h => nomatch h)
         have hBg37 := hBg37.chg hc74 (fun h => nomatch h)
         have hBg51 := hBg51.chg hc74 (fun h => nomatch h)
         have q_hn8 : g5 ∉ [g51] ++ (blkL ao49 ++ ([g37] ++ ([g20] ++ (M)))) := fun h => (o2 g5 h).elim hn8 (fun h => absurd (lt_cell (hE7 0 _ rfl)) (Nat.not_lt.2 h))
         have hE7 : ∀ j v, (cS_api_Tunnel a0 ao1 cap1)[j]? = some v → w73.cell? ⟨g5, 0 + j, none⟩ = some v := fun j v hv => (cell_keep hc74 o1 hn8 (hE7 j v hv))
         have hn8 := q_hn8
         have hM : MS ([g51] ++ (blkL ao49 ++ ([g37] ++ ([g20] ++ (M))))) w73 := (hM.chg hc74)
         have hC := hC.trans hc74 (Ok.nil _ _)
         refine wpl_end ?_
         obtain rfl := Option.some.inj H
         exact J65 _ _ (ha.sel (by kernel_rfl)) f49 hBg20 hBg37 hBg51 hC hM
        ·have ha := ha.lit hb70
         have H := ite_f hb70 H
         refine qo ha rfl rfl rfl fun a ha => ?_
         refine qo ha rfl rfl rfl fun a ha => ?_
         refine qo ha rfl rfl rfl fun a ha => ?_
         refine qo ha rfl rfl rfl fun a ha => ?_
         refine qo ha rfl rfl rfl fun a ha => ?_
         refine qp 4 (.bool false) ha rfl rfl rfl (by kernel_rfl) fun a ha => ?_
         refine qp 0 (.bool false) ha rfl rfl rfl (by kernel_rfl) fun a ha => ?_
         refine wpQuiet_nil ?_
         intro w75 hc76
         have o1 : Ok [] ([g51] ++ (blkL ao49 ++ ([g37] ++ ([g20] ++ (M))))) w63.heap.size := Ok.nil _ _
         have o2 : Ok ([g51] ++ (blkL ao49 ++ ([g37] ++ ([g20] ++ (M))))) ([g51] ++ (blkL ao49 ++ ([g37] ++ ([g20] ++ (M))))) w63.heap.size := (Ok.refl _ _)
         have f1 := f1.chg hc76 o1 o2
         have f49 := f49.chg hc76 o1 o2 (fun _ _ h => nomatch h) (fun _ h => mr (ml h))
         have hBg20 := hBg20.chg hc76 (fun h => nomatch h)
         have hBg37 := hBg37.chg hc76 (fun h => nomatch h)
         have hBg51 := hBg51.chg hc76 (fun h => nomatch h)
         have q_hn8 : g5 ∉ [g51] ++ (blkL ao49 ++ ([g37] ++ ([g20] ++ (M)))) := fun h => (o2 g5 h).elim hn8 (fun h => absurd (lt_cell (hE7 0 _ rfl)) (Nat.not_lt.2 h))
         have hE7 : ∀ j v, (cS_api_Tunnel a0 ao1 cap1)[j]? = some v → w75.cell? ⟨g5, 0 + j, none⟩ = some v := fun j v hv => (cell_keep hc76 o1 hn8 (hE7 j v hv))
         have hn8 := q_hn8
         have hM : MS ([g51] ++ (blkL ao49 ++ ([g37] ++ ([g20] ++ (M))))) w75 := (hM.chg hc76)
         have hC := hC.trans hc76 (Ok.nil _ _)
         refine wpl_end ?_
         obtain rfl := Option.some.inj H
         exact J65 _ _ (ha.sel (by kernel_rfl)) f49 hBg20 hBg37 hBg51 hC hM
       ·have ha := ha.lit hb69
        have H := ite_f hb69 H
        refine qo ha rfl rfl rfl fun a ha => ?_
        refine qo ha rfl rfl rfl fun a ha => ?_
        refine qo ha rfl rfl rfl fun a ha => ?_
        refine qp 4 (.bool false) ha rfl rfl rfl (by kernel_rfl) fun a ha => ?_
        refine qp 0 (.bool false) ha rfl rfl rfl (by kernel_rfl) fun a ha => ?_
        refine qo ha rfl rfl rfl fun a ha => ?_
        refine qo ha rfl rfl rfl fun a ha => ?_
        refine qo ha rfl rfl rfl fun a ha => ?_
        refine qo ha rfl rfl rfl fun a ha => ?_
        refine qo ha rfl rfl rfl fun a ha => ?_
        refine qp 4 (.bool false) ha rfl rfl rfl (by kernel_rfl) fun a ha => ?_
        refine qp 0 (.bool false) ha rfl rfl rfl (by kernel_rfl) fun a ha => ?_
        refine wpQuiet_nil ?_
        intro w77 hc78
        have o1 : Ok [] ([g51] ++ (blkL ao49 ++ ([g37] ++ ([g20] ++ (M))))) w63.heap.size := Ok.nil _ _
        have o2 : Ok ([g51] ++ (blkL ao49 ++ ([g37] ++ ([g20] ++ (M))))) ([g51] ++ (blkL ao49 ++ ([g37] ++ ([g20] ++ (M))))) w63.heap.size := (Ok.refl _ _)
        have f1 := f1.chg hc78 o1 o2
        have f49 := f49.chg hc78 o1 o2 (fun _ _ h => nomatch h) (fun _ h => mr (ml h))
        have hBg20 := hBg20.chg hc78 (fun h => nomatch h)
        have hBg37 := hBg37.chg hc78 (fun h => nomatch h)
        have hBg51 := hBg51.chg hc78 (fun h => nomatch h)
        have q_hn8 : g5 ∉ [g51] ++ (blkL ao49 ++ ([g37] ++ ([g20] ++ (M)))) := fun h => (o2 g5 h).elim hn8 (fun h => absurd (lt_cell (hE7 0 _ rfl)) (Nat.not_lt.2 h))
        have hE7 : ∀ j v, (cS_api_Tunnel a0 ao1 cap1)[j]? = some v → w77.cell? ⟨g5, 0 + j, none⟩ = some v := fun j v hv => (cell_keep hc78 o1 hn8 (hE7 j v hv))
        have hn8 := q_hn8
        have hM : MS ([g51] ++ (blkL ao49 ++ ([g37] ++ ([g20] ++ (M))))) w77 := (hM.chg hc78)
        have hC := hC.trans hc78 (Ok.nil _ _)
        refine wpl_end ?_
        obtain rfl := Option.some.inj H
        exact J65 _ _ (ha.sel (by kernel_rfl)) f49 hBg20 hBg37 hBg51 hC hM
      ·have ha := ha.lit hb68
       have H := ite_f hb68 H
       refine qo ha rfl rfl rfl fun a ha => ?_
       refine qp 4 (.bool false) ha rfl rfl rfl (by kernel_rfl) fun a ha => ?_
       refine qp 0 (.bool false) ha rfl rfl rfl (by kernel_rfl) fun a ha => ?_
       refine qo ha rfl rfl rfl fun a ha => ?_
       refine qo ha rfl rfl rfl fun a ha => ?_
       refine qo ha rfl rfl rfl fun a ha => ?_
       refine qp 4 (.bool false) ha rfl rfl rfl (by kernel_rfl) fun a ha => ?_
       refine qp 0 (.bool false) ha rfl rfl rfl (by kernel_rfl) fun a ha => ?_
       refine qo ha rfl rfl rfl fun a ha => ?_
       refine qo ha rfl rfl rfl fun a ha => ?_
       refine qo ha rfl rfl rfl fun a ha => ?_
       refine qp 4 (.bool false) ha rfl rfl rfl (by kernel_rfl) fun a ha => ?_
       refine qp 0 (.bool false) ha rfl rfl rfl (by kernel_rfl) fun a ha => ?_
       refine qo ha rfl rfl rfl fun a ha => ?_
       refine qo ha rfl rfl rfl fun a ha => ?_
       refine qo ha rfl rfl rfl fun a ha => ?_
       refine qo ha rfl rfl rfl fun a ha => ?_
       refine qo ha rfl rfl rfl fun a ha => ?_
       refine qp 4 (.bool false) ha rfl rfl rfl (by kernel_rfl) fun a ha => ?_
       refine qp 0 (.bool false) ha rfl rfl rfl (by kernel_rfl) fun a ha => ?_
       refine wpQuiet_nil ?_
       intro w79 hc80
       have o1 : Ok [] ([g51] ++ (blkL ao49 ++ ([g37] ++ ([g20] ++ (M))))) w63.heap.size := Ok.nil _ _
       have o2 : Ok ([g51] ++ (blkL ao49 ++ ([g37] ++ ([g20] ++ (M))))) ([g51] ++ (blkL ao49 ++ ([g37] ++ ([g20] ++ (M))))) w63.heap.size := (Ok.refl _ _)
       have f1 := f1.chg hc80 o1 o2
       have f49 := f49.chg hc80 o1 o2 (fun _ _ h => nomatch h) (fun _ h => mr (ml h))
       have hBg20 := hBg20.chg hc80 (fun h => nomatch h)
       have hBg37 := hBg37.chg hc80 (fun h => nomatch h)
       have hBg51 := hBg51.chg hc80 (fun h => nomatch h)
       have q_hn8 : g5 ∉ [g51] ++ (blkL ao49 ++ ([g37] ++ ([g20] ++ (M)))) := fun h => (o2 g5 h).elim hn8 (fun h => absurd (lt_cell (hE7 0 _ rfl)) (Nat.not_lt.2 h))
       have hE7 : ∀ j v, (cS_api_Tunnel a0 ao1 cap1)[j]? = some v → w79.cell? ⟨g5, 0 + j, none⟩ = some v := fun j v hv => (cell_keep hc80 o1 hn8 (hE7 j v hv))
       have hn8 := q_hn8
       have hM : MS ([g51] ++ (blkL ao49 ++ ([g37] ++ ([g20] ++ (M))))) w79 := (hM.chg hc80)
       have hC := hC.trans hc80 (Ok.nil _ _)
       refine wpl_end ?_
       obtain rfl := Option.some.inj H
       exact J65 _ _ (ha.sel (by kernel_rfl)) f49 hBg20 hBg37 hBg51 hC hM
     ·have ha := ha.lit hb67
      have H := ite_f hb67 H
      refine qo ha rfl rfl rfl fun a ha => ?_
      refine qp 4 (.bool false) ha rfl rfl rfl (by kernel_rfl) fun a ha => ?_
      refine qp 0 (.bool false) ha rfl rfl rfl (by kernel_rfl) fun a ha => ?_
      refine qo ha rfl rfl rfl fun a ha => ?_
      refine qp 4 (.bool false) ha rfl rfl rfl (by kernel_rfl) fun a ha => ?_
      refine qp 0 (.bool false) ha rfl rfl rfl (by kernel_rfl) fun a ha => ?_
      refine qo ha rfl rfl rfl fun a ha => ?_
      refine qo ha rfl rfl rfl fun a ha => ?_
      refine qo ha rfl rfl rfl fun a ha => ?_
      refine qp 4 (.bool false) ha rfl rfl rfl (by kernel_rfl) fun a ha => ?_
      refine qp 0 (.bool false) ha rfl rfl rfl (by kernel_rfl) fun a ha => ?_
      refine qo ha rfl rfl rfl fun a ha => ?_
      refine qo ha rfl rfl rfl fun a ha => ?_
      refine qo ha rfl rfl rfl fun a ha => ?_
      refine qp 4 (.bool false) ha rfl rfl rfl (by kernel_rfl) fun a ha => ?_
      refine qp 0 (.bool false) ha rfl rfl rfl (by kernel_rfl) fun a ha => ?_
      refine qo ha rfl rfl rfl fun a ha => ?_
      refine qo ha rfl rfl rfl fun a ha => ?_
      refine qo ha rfl rfl rfl fun a ha => ?_
      refine qo ha rfl rfl rfl fun a ha => ?_
      refine qo ha rfl rfl rfl fun a ha => ?_
      refine qp 4 (.bool false) ha rfl rfl rfl (by kernel_rfl) fun a ha => ?_
      refine qp 0 (.bool false) ha rfl rfl rfl (by kernel_rfl) fun a ha => ?_
      refine wpQuiet_nil ?_
      intro w81 hc82
      have o1 : Ok [] ([g51] ++ (blkL ao49 ++ ([g37] ++ ([g20] ++ (M))))) w63.heap.size := Ok.nil _ _
      have o2 : Ok ([g51] ++ (blkL ao49 ++ ([g37] ++ ([g20] ++ (M))))) ([g51] ++ (blkL ao49 ++ ([g37] ++ ([g20] ++ (M))))) w63.heap.size := (Ok.refl _ _)
      have f1 := f1.chg hc82 o1 o2
      have f49 := f49.chg hc82 o1 o2 (fun _ _ h => nomatch h) (fun _ h => mr (ml h))
      have hBg20 := hBg20.chg hc82 (fun h => nomatch h)
      have hBg37 := hBg37.chg hc82 (fun h => nomatch h)
      have hBg51 := hBg51.chg hc82 (fun h => nomatch h)
      have q_hn8 : g5 ∉ [g51] ++ (blkL ao49 ++ ([g37] ++ ([g20] ++ (M)))) := fun h => (o2 g5 h).elim hn8 (fun h => absurd (lt_cell (hE7 0 _ rfl)) (Nat.not_lt.2 h))
      have hE7 : ∀ j v, (cS_api_Tunnel a0 ao1 cap1)[j]? = some v → w81.cell? ⟨g5, 0 + j, none⟩ = some v := fun j v hv => (cell_keep hc82 o1 hn8 (hE7 j v hv))
      have hn8 := q_hn8
      have hM : MS ([g51] ++ (blkL ao49 ++ ([g37] ++ ([g20] ++ (M))))) w81 := (hM.chg hc82)
      have hC := hC.trans hc82 (Ok.nil _ _)
      refine wpl_end ?_
      obtain rfl := Option.some.inj H
      exact J65 _ _ (ha.sel (by kernel_rfl)) f49 hBg20 hBg37 hBg51 hC hM
    ·have ha := ha.lit hb66
     have H := ite_f hb66 H
     refine qo ha rfl rfl rfl fun a ha => ?_
     refine qp 4 (.bool false) ha rfl rfl rfl (by kernel_rfl) fun a ha => ?_
     refine qp 0 (.bool false) ha rfl rfl rfl (by kernel_rfl) fun a ha => ?_
     refine qo ha rfl rfl rfl fun a ha => ?_
     refine qp 4 (.bool false) ha rfl rfl rfl (by kernel_rfl) fun a ha => ?_
     refine qp 0 (.bool false) ha rfl rfl rfl (by kernel_rfl) fun a ha => ?_
     refine qo ha rfl rfl rfl fun a ha => ?_
     refine qp 4 (.bool false) ha rfl rfl rfl (by kernel_rfl) fun a ha => ?_
     refine qp 0 (.bool false) ha rfl rfl rfl (by kernel_rfl) fun a ha => ?_
     refine qo ha rfl rfl rfl fun a ha => ?_
     refine qo ha rfl rfl rfl fun a ha => ?_
     refine qo ha rfl rfl rfl fun a ha => ?_
     refine qp 4 (.bool false) ha rfl rfl rfl (by kernel_rfl) fun a ha => ?_
     refine qp 0 (.bool false) ha rfl rfl rfl (by kernel_rfl) fun a ha => ?_
     refine qo ha rfl rfl rfl fun a ha => ?_
     refine qo ha rfl rfl rfl fun a ha => ?_
     refine qo ha rfl rfl rfl fun a ha => ?_
     refine qp 4 (.bool false) ha rfl rfl rfl (by kernel_rfl) fun a ha => ?_
     refine qp 0 (.bool false) ha rfl rfl rfl (by kernel_rfl) fun a ha => ?_
     refine qo ha rfl rfl rfl fun a ha => ?_
     refine qo ha rfl rfl rfl fun a ha => ?_
     refine qo ha rfl rfl rfl fun a ha => ?_
     refine qo ha rfl rfl rfl fun a ha => ?_
     refine qo ha rfl rfl rfl fun a ha => ?_
     refine qp 4 (.bool false) ha rfl rfl rfl (by kernel_rfl) fun a ha => ?_
     refine qp 0 (.bool false) ha rfl rfl rfl (by kernel_rfl) fun a ha => ?_
     refine wpQuiet_nil ?_
     intro w83 hc84
     have o1 : Ok [] ([g51] ++ (blkL ao49 ++ ([g37] ++ ([g20] ++ (M))))) w63.heap.size := Ok.nil _ _
     have o2 : Ok ([g51] ++ (blkL ao49 ++ ([g37] ++ ([g20] ++ (M))))) ([g51] ++ (blkL ao49 ++ ([g37] ++ ([g20] ++ (M))))) w63.heap.size := (Ok.refl _ _)
     have f1 := f1.chg hc84 o1 o2
     have f49 := f49.chg hc84 o1 o2 (fun _ _ h => nomatch h) (fun _ h => mr (ml h))
     have hBg20 := hBg20.chg hc84 (fun h => nomatch h)
     have hBg37 := hBg37.chg hc84 (fun h => nomatch h)
     have hBg51 := hBg51.chg hc84 (fun h => nomatch h)
     have q_hn8 : g5 ∉ [g51] ++ (blkL ao49 ++ ([g37] ++ ([g20] ++ (M)))) := fun h => (o2 g5 h).elim hn8 (fun h => absurd (lt_cell (hE7 0 _ rfl)) (Nat.not_lt.2 h))
     have hE7 : ∀ j v, (cS_api_Tunnel a0 ao1 cap1)[j]? = some v → w83.cell? ⟨g5, 0 + j, none⟩ = some v := fun j v hv => (cell_keep hc84 o1 hn8 (hE7 j v hv))
     have hn8 := q_hn8
     have hM : MS ([g51] ++ (blkL ao49 ++ ([g37] ++ ([g20] ++ (M))))) w83 := (hM.chg hc84)
     have hC := hC.trans hc84 (Ok.nil _ _)
     refine wpl_end ?_
     obtain rfl := Option.some.inj H
     exact J65 _ _ (ha.sel (by kernel_rfl)) f49 hBg20 hBg37 hBg51 hC hM
   have H := H57
   refine seg ha 1 [(2, .pointer (some ⟨g5, 0, none⟩)), (5, .bool t10), (6, .slice ao17 t16.length cap17), (7, .pointer (some ⟨g20, 0, none⟩)), (8, .slice ao32 t31.1.length cap32), (9, .int .i64 t31.2), (10, .pointer (some ⟨g37, 0, none⟩)), (11, .int .i64 t34.2), (12, .bool s43), (13, .slice ao46 t45.1.length cap46), (14, .int .i64 t45.2), (15, .pointer (some ⟨g51, 0, none⟩)), (16, .int .i64 t48.2), (67, .slice ao32 t31.1.length cap32)] (by kernel_rfl) fun a ha => ?_
   refine cvs ha rfl (by kernel_rfl) (by kernel_rfl) (by kernel_rfl) rfl rfl rfl (Own.toRSl (M' := []) f32 (Ok.nil _ _) (fun _ _ h => nomatch h)) fun a ha => ?_
   refine seg ha 1 [(2, .pointer (some ⟨g5, 0, none⟩)), (5, .bool t10), (6, .slice ao17 t16.length cap17), (7, .pointer (some ⟨g20, 0, none⟩)), (8, .slice ao32 t31.1.length cap32), (9, .int .i64 t31.2), (10, .pointer (some ⟨g37, 0, none⟩)), (11, .int .i64 t34.2), (12, .bool s43), (14, .int .i64 t45.2), (15, .pointer (some ⟨g51, 0, none⟩)), (16, .int .i64 t48.2), (68, .string (bstr (b2s t31.1))), (69, .slice ao46 t45.1.length cap46)] (by kernel_rfl) fun a ha => ?_
   refine cvs ha rfl (by kernel_rfl) (by kernel_rfl) (by kernel_rfl) rfl rfl rfl (Own.toRSl (M' := []) f46 (Ok.nil _ _) (fun _ _ h => nomatch h)) fun a ha => ?_
   refine seg ha 2 [(72, .bool ((bstr (b2s t31.1)).toList == (bstr (b2s t45.1)).toList)), (2, .pointer (some ⟨g5, 0, none⟩)), (5, .bool t10), (6, .slice ao17 t16.length cap17), (7, .pointer (some ⟨g20, 0, none⟩)), (8, .slice ao32 t31.1.length cap32), (9, .int .i64 t31.2), (10, .pointer (some ⟨g37, 0, none⟩)), (11, .int .i64 t34.2), (12, .bool s43), (14, .int .i64 t45.2), (15, .pointer (some ⟨g51, 0, none⟩)), (16, .int .i64 t48.2)] (by kernel_rfl) fun a ha => ?_
   rcases Bool.eq_false_or_eq_true ((bstr (b2s t31.1)).toList == (bstr (b2s t45.1)).toList) with hb85 | hb85
   ·have ha := ha.lit hb85
    have H := ite_t hb85 H
    refine ldA (cs := (cS_api_Tunnel t34.1 ao35 cap35)) ha rfl (by kernel_rfl) rfl rfl rfl (cells_sub (Box.cells hBg37) (all := (cS_api_Tunnel t34.1 ao35 cap35)) [] [] (by kernel_rfl)) fun a ha => ?_
    refine ldA (cs := (cS_api_Tunnel t48.1 ao49 cap49)) ha rfl (by kernel_rfl) rfl rfl rfl (cells_sub (Box.cells hBg51) (all := (cS_api_Tunnel t48.1 ao49 cap49)) [] [] (by kernel_rfl)) fun a ha => ?_
    have hML : MS ([g51] ++ (blkL ao46 ++ ([g37] ++ (blkL ao32 ++ (blkL ao27 ++ ([g20] ++ (blkL ao17 ++ (M)))))))) w54 := MS.rest hM (fun _ h => (List.mem_append.1 h).elim (fun h => ml h) (fun h => (List.mem_append.1 h).elim (fun h => mr (mr (ml h))) (fun h => (List.mem_append.1 h).elim (fun h => mr (mr (mr (ml h)))) (fun h => (List.mem_append.1 h).elim (fun h => mr (mr (mr (mr (mr (ml h)))))) (fun h => (List.mem_append.1 h).elim (fun h => mr (mr (mr (mr (mr (mr (ml h))))))) (fun h => (List.mem_append.1 h).elim (fun h => mr (mr (mr (mr (mr (mr (mr (ml h)))))))) (fun h => (List.mem_append.1 h).elim (fun h => mr (mr (mr (mr (mr (mr (mr (mr (ml h))))))))) (fun h => mr (mr (mr (mr (mr (mr (mr (mr (mr (h)))))))))))))))))
    have oL : Ok ([g51] ++ (blkL ao46 ++ ([g37] ++ (blkL ao32 ++ (blkL ao27 ++ ([g20] ++ (blkL ao17 ++ (M)))))))) ([g51] ++ (blkL ao49 ++ (blkL ao46 ++ ([g37] ++ (blkL ao35 ++ (blkL ao32 ++ (blkL ao27 ++ ([g20] ++ (blkL ao17 ++ (M)))))))))) w54.heap.size := (Ok.app (fun _ h => .inl (ml h)) (Ok.app (fun _ h => .inl (mr (mr (ml h)))) (Ok.app (fun _ h => .inl (mr (mr (mr (ml h))))) (fun _ h => .inl (mr (mr (mr (mr (mr (h))))))))))
    obtain ⟨t86, H86, H⟩ := bind_some H
    refine cl ha (by rfl) (by kernel_rfl) (by rfl) (by rfl) (by rfl) (vineryref06_Equal.walk w54 _ hML t34.1 ao35 cap35 (Own.toRSl (M' := [g51] ++ (blkL ao46 ++ ([g37] ++ (blkL ao32 ++ (blkL ao27 ++ ([g20] ++ (blkL ao17 ++ (M)))))))) f35 oL (fun x hx hm => (List.mem_append.1 hm).elim (fun h => (fun x hx hy => p_i53_i35 x hy hx) x hx h) (fun h => (List.mem_append.1 h).elim (fun h => (fun x hx hy => p_i46_i35 x hy hx) x hx h) (fun h => (List.mem_append.1 h).elim (fun h => (fun x hx hy => p_i39_i35 x hy hx) x hx h) (fun h => (List.mem_append.1 h).elim (fun h => p_i35_i32 x hx h) (fun h => (List.mem_append.1 h).elim (fun h => p_i35_i27 x hx h) (fun h => (List.mem_append.1 h).elim (fun h => p_i35_i22 x hx h) (fun h => (List.mem_append.1 h).elim (fun h => p_i35_i17 x hx h) (fun h => p_i35_M x hx h))))))))) t48.1 ao49 cap49 (Own.toRSl (M' := [g51] ++ (blkL ao46 ++ ([g37] ++ (blkL ao32 ++ (blkL ao27 ++ ([g20] ++ (blkL ao17 ++ (M)))))))) f49 oL (fun x hx hm => (List.mem_append.1 hm).elim (fun h => (fun x hx hy => p_i53_i49 x hy hx) x hx h) (fun h => (List.mem_append.1 h).elim (fun h => p_i49_i46 x hx h) (fun h => (List.mem_append.1 h).elim (fun h => p_i49_i39 x hx h) (fun h => (List.mem_append.1 h).elim (fun h => p_i49_i32 x hx h) (fun h => (List.mem_append.1 h).elim (fun h => p_i49_i27 x hx h) (fun h => (List.mem_append.1 h).elim (fun h => p_i49_i22 x hx h) (fun h => (List.mem_append.1 h).elim (fun h => p_i49_i17 x hx h) (fun h => p_i49_M x hx h))))))))) _ H86) ?_
    rintro _ w86 ⟨rfl, hc86, hMn⟩ a ha
    have o1 : Ok [] ([g51] ++ (blkL ao49 ++ (blkL ao46 ++ ([g37] ++ (blkL ao35 ++ (blkL ao32 ++ (blkL ao27 ++ ([g20] ++ (blkL ao17 ++ (M)))))))))) w54.heap.size := Ok.nil _ _
    have o2 : Ok ([g51] ++ (blkL ao49 ++ (blkL ao46 ++ ([g37] ++ (blkL ao35 ++ (blkL ao32 ++ (blkL ao27 ++ ([g20] ++ (blkL ao17 ++ (M)))))))))) ([g51] ++ (blkL ao49 ++ (blkL ao46 ++ ([g37] ++ (blkL ao35 ++ (blkL ao32 ++ (blkL ao27 ++ ([g20] ++ (blkL ao17 ++ (M)))))))))) w54.heap.size := (Ok.refl _ _)
    have f1 := f1.chg hc86 o1 o2
    have f17 := f17.chg hc86 o1 o2 (fun _ _ h => nomatch h) (fun _ h => mr (mr (mr (mr (mr (mr (mr (mr (ml h)))))))))
    have f32 := f32.chg hc86 o1 o2 (fun _ _ h => nomatch h) (fun _ h => mr (mr (mr (mr (mr (ml h))))))
    have f35 := f35.chg hc86 o1 o2 (fun _ _ h => nomatch h) (fun _ h => mr (mr (mr (mr (ml h)))))
    have f49 := f49.chg hc86 o1 o2 (fun _ _ h => nomatch h) (fun _ h => mr (ml h))
    have f27 := f27.chg hc86 o1 o2 (fun _ _ h => nomatch h) (fun _ h => mr (mr (mr (mr (mr (mr (ml h)))))))
    have hBg20 := hBg20.chg hc86 (fun h => nomatch h)
    have hBg37 := hBg37.chg hc86 (fun h => nomatch h)
    have hBg51 := hBg51.chg hc86 (fun h => nomatch h)
    have q_hn8 : g5 ∉ [g51] ++ (blkL ao49 ++ (blkL ao46 ++ ([g37] ++ (blkL ao35 ++ (blkL ao32 ++ (blkL ao27 ++ ([g20] ++ (blkL ao17 ++ (M))))))))) := fun h => (o2 g5 h).elim hn8 (fun h => absurd (lt_cell (hE7 0 _ rfl)) (Nat.not_lt.2 h))
    have hE7 : ∀ j v, (cS_api_Tunnel a0 ao1 cap1)[j]? = some v → w86.cell? ⟨g5, 0 + j, none⟩ = some v := fun j v hv => (cell_keep hc86 o1 hn8 (hE7 j v hv))
    have hn8 := q_hn8
    have hM : MS ([g51] ++ (blkL ao49 ++ (blkL ao46 ++ ([g37] ++ (blkL ao35 ++ (blkL ao32 ++ (blkL ao27 ++ ([g20] ++ (blkL ao17 ++ (M)))))))))) w86 := (hM.chg hc86)
    have hC := hC.trans hc86 (Ok.nil _ _)
    refine sgh ha 2 [3, 0] [(2, .pointer (some ⟨g5, 0, none⟩)), (5, .bool t10), (6, .slice ao17 t16.length cap17), (7, .pointer (some ⟨g20, 0, none⟩)), (8, .slice ao32 t31.1.length cap32), (9, .int .i64 t31.2), (10, .pointer (some ⟨g37, 0, none⟩)), (11, .int .i64 t34.2), (12, .bool s43), (14, .int .i64 t45.2), (16, .int .i64 t48.2), (17, .bool t86)] (by kernel_rfl) fun a ha => ?_
    obtain rfl := Option.some.inj H
    have o1 : Ok [] ([g51] ++ (blkL ao49 ++ (blkL ao46 ++ ([g37] ++ (blkL ao35 ++ (blkL ao32 ++ (blkL ao27 ++ ([g20] ++ (blkL ao17 ++ (M)))))))))) w86.heap.size := Ok.nil _ _
    have o2 : Ok ([g51] ++ (blkL ao49 ++ ([g37] ++ (blkL ao35 ++ (blkL ao32 ++ (blkL ao27 ++ ([g20] ++ (blkL ao17 ++ (M))))))))) ([g51] ++ (blkL ao49 ++ (blkL ao46 ++ ([g37] ++ (blkL ao35 ++ (blkL ao32 ++ (blkL ao27 ++ ([g20] ++ (blkL ao17 ++ (M)))))))))) w86.heap.size := (Ok.app (fun _ h => .inl (ml h)) (Ok.app (fun _ h => .inl (mr (ml h))) (fun _ h => .inl (mr (mr (mr (h)))))))
    have f1 := f1.chg (Chg.refl [] _) o1 o2
    have f17 := f17.chg (Chg.refl [] _) o1 o2 (fun _ _ h => nomatch h) (fun _ h => mr (mr (mr (mr (mr (mr (mr (ml h))))))))
    have f32 := f32.chg (Chg.refl [] _) o1 o2 (fun _ _ h => nomatch h) (fun _ h => mr (mr (mr (mr (ml h)))))
    have f27 := f27.chg (Chg.refl [] _) o1 o2 (fun _ _ h => nomatch h) (fun _ h => mr (mr (mr (mr (mr (ml h))))))
    have f35 := f35.chg (Chg.refl [] _) o1 o2 (fun _ _ h => nomatch h) (fun _ h => mr (mr (mr (ml h))))
    have f49 := f49.chg (Chg.refl [] _) o1 o2 (fun _ _ h => nomatch h) (fun _ h => mr (ml h))
    have hBg20 := hBg20.chg (Chg.refl [] _) (fun h => nomatch h)
    have hBg37 := hBg37.chg (Chg.refl [] _) (fun h => nomatch h)
    have hBg51 := hBg51.chg (Chg.refl [] _) (fun h => nomatch h)
    have q_hn8 : g5 ∉ [g51] ++ (blkL ao49 ++ ([g37] ++ (blkL ao35 ++ (blkL ao32 ++ (blkL ao27 ++ ([g20] ++ (blkL ao17 ++ (M)))))))) := fun h => (o2 g5 h).elim hn8 (fun h => absurd (lt_cell (hE7 0 _ rfl)) (Nat.not_lt.2 h))
    have hE7 : ∀ j v, (cS_api_Tunnel a0 ao1 cap1)[j]? = some v → w86.cell? ⟨g5, 0 + j, none⟩ = some v := fun j v hv => (cell_keep (Chg.refl [] _) o1 hn8 (hE7 j v hv))
    have hn8 := q_hn8
    have hM : MS ([g51] ++ (blkL ao49 ++ ([g37] ++ (blkL ao35 ++ (blkL ao32 ++ (blkL ao27 ++ ([g20] ++ (blkL ao17 ++ (M))))))))) w86 := (MS.app (fun x h => hM.chg (Chg.refl [] _) x (ml h)) (MS.app (fun x h => hM.chg (Chg.refl [] _) x (mr (ml h))) (fun x h => hM.chg (Chg.refl [] _) x (mr (mr (mr (h)))))))
    have hC := hC.trans (Chg.refl [] _) (Ok.nil _ _)
    exact J57 _ _ (ha.sel (by kernel_rfl)) f1 f17 f32 f27 f35 f49 hBg20 hBg37 hBg51 hE7 hn8 hC hM
   ·have ha := ha.lit hb85
    have H := ite_f hb85 H
    refine sgh ha 5 [1, 1, 1, 4, 0] [(2, .pointer (some ⟨g5, 0, none⟩)), (5, .bool t10), (6, .slice ao17 t16.length cap17), (7, .pointer (some ⟨g20, 0, none⟩)), (8, .slice ao32 t31.1.length cap32), (9, .int .i64 t31.2), (10, .pointer (some ⟨g37, 0, none⟩)), (11, .int .i64 t34.2), (12, .bool s43), (14, .int .i64 t45.2), (16, .int .i64 t48.2), (17, .bool false)] (by kernel_rfl) fun a ha => ?_
    obtain rfl := Option.some.inj H
    have o1 : Ok [] ([g51] ++ (blkL ao49 ++ (blkL ao46 ++ ([g37] ++ (blkL ao35 ++ (blkL ao32 ++ (blkL ao27 ++ ([g20] ++ (blkL ao17 ++ (M)))))))))) w54.heap.size := Ok.nil _ _
    have o2 : Ok ([g51] ++ (blkL ao49 ++ ([g37] ++ (blkL ao35 ++ (blkL ao32 ++ (blkL ao27 ++ ([g20] ++ (blkL ao17 ++ (M))))))))) ([g51] ++ (blkL ao49 ++ (blkL ao46 ++ ([g37] ++ (blkL ao35 ++ (blkL ao32 ++ (blkL ao27 ++ ([g20] ++ (blkL ao17 ++ (M)))))))))) w54.heap.size := (Ok.app (fun _ h => .inl (ml h)) (Ok.app (fun _ h => .inl (mr (ml h))) (fun _ h => .inl (mr (mr (mr (h)))))))
    have f1 := f1.chg (Chg.refl [] _) o1 o2
    have f17 := f17.chg (Chg.refl [] _) o1 o2 (fun _ _ h => nomatch h) (fun _ h => mr (mr (mr (mr (mr (mr (mr (ml h))))))))
    have f32 := f32.chg (Chg.refl [] _) o1 o2 (fun _ _ h => nomatch h) (fun _ h => mr (mr (mr (mr (ml h)))))
    have f27 := f27.chg (Chg.refl [] _) o1 o2 (fun _ _ h => nomatch h) (fun _ h => mr (mr (mr (mr (mr (ml h))))))
    have f35 := f35.chg (Chg.refl [] _) o1 o2 (fun _ _ h => nomatch h) (fun _ h => mr (mr (mr (ml h))))
    have f49 := f49.chg (Chg.refl [] _) o1 o2 (fun _ _ h => nomatch h) (fun _ h => mr (ml h))
    have hBg20 := hBg20.chg (Chg.refl [] _) (fun h => nomatch h)
    have hBg37 := hBg37.chg (Chg.refl [] _) (fun h => nomatch h)
    have hBg51 := hBg51.chg (Chg.refl [] _) (fun h => nomatch h)
    have q_hn8 : g5 ∉ [g51] ++ (blkL ao49 ++ ([g37] ++ (blkL ao35 ++ (blkL ao32 ++ (blkL ao27 ++ ([g20] ++ (blkL ao17 ++ (M)))))))) := fun h => (o2 g5 h).elim hn8 (fun h => absurd (lt_cell (hE7 0 _ rfl)) (Nat.not_lt.2 h))
    have hE7 : ∀ j v, (cS_api_Tunnel a0 ao1 cap1)[j]? = some v → w54.cell? ⟨g5, 0 + j, none⟩ = some v := fun j v hv => (cell_keep (Chg.refl [] _) o1 hn8 (hE7 j v hv))
    have hn8 := q_hn8
    have hM : MS ([g51] ++ (blkL ao49 ++ ([g37] ++ (blkL ao35 ++ (blkL ao32 ++ (blkL ao27 ++ ([g20] ++ (blkL ao17 ++ (M))))))))) w54 := (MS.app (fun x h => hM.chg (Chg.refl [] _) x (ml h)) (MS.app (fun x h => hM.chg (Chg.refl [] _) x (mr (ml h))) (fun x h => hM.chg (Chg.refl [] _) x (mr (mr (mr (h)))))))
    have hC := hC.trans (Chg.refl [] _) (Ok.nil _ _)
    exact J57 _ _ (ha.sel (by kernel_rfl)) f1 f17 f32 f27 f35 f49 hBg20 hBg37 hBg51 hE7 hn8 hC hM
  have H := H43
  refine seg ha 2 [(1, .slice ao2 a1.length cap2), (2, .pointer (some ⟨g5, 0, none⟩)), (5, .bool t10), (6, .slice ao17 t16.length cap17), (7, .pointer (some ⟨g20, 0, none⟩)), (8, .slice ao32 t31.1.length cap32), (9, .int .i64 t31.2), (10, .pointer (some ⟨g37, 0, none⟩)), (11, .int .i64 t34.2), (47, .slice ao17 t16.length cap17), (48, .slice ao2 a1.length cap2)] (by kernel_rfl) fun a ha => ?_
  obtain ⟨t87, H87, H⟩ := bind_some H
  refine cl ha (by rfl) (by kernel_rfl) (by rfl) (by rfl) (by rfl) (Kept.walk w40 _ hM t16 ao17 cap17 f17 a1 ao2 cap2 f2 _ H87) ?_
  rintro _ w87 ⟨rfl, hc87, hMn⟩ a ha
  have o1 : Ok [] ([g37] ++ (blkL ao35 ++ (blkL ao32 ++ (blkL ao27 ++ ([g20] ++ (blkL ao17 ++ (M))))))) w40.heap.size := Ok.nil _ _
  have o2 : Ok ([g37] ++ (blkL ao35 ++ (blkL ao32 ++ (blkL ao27 ++ ([g20] ++ (blkL ao17 ++ (M))))))) ([g37] ++ (blkL ao35 ++ (blkL ao32 ++ (blkL ao27 ++ ([g20] ++ (blkL ao17 ++ (M))))))) w40.heap.size := (Ok.refl _ _)
  have f2 := f2.chg hc87 o1 o2
  have f1 := f1.chg hc87 o1 o2
  have f17 := f17.chg hc87 o1 o2 (fun _ _ h => nomatch h) (fun _ h => mr (mr (mr (mr (mr (ml h))))))
  have f32 := f32.chg hc87 o1 o2 (fun _ _ h => nomatch h) (fun _ h => mr (mr (ml h)))
  have f27 := f27.chg hc87 o1 o2 (fun _ _ h => nomatch h) (fun _ h => mr (mr (mr (ml h))))
  have f35 := f35.chg hc87 o1 o2 (fun _ _ h => nomatch h) (fun _ h => mr (ml h))
  have hBg20 := hBg20.chg hc87 (fun h => nomatch h)
  have hBg37 := hBg37.chg hc87 (fun h => nomatch h)
  have q_hn8 : g5 ∉ [g37] ++ (blkL ao35 ++ (blkL ao32 ++ (blkL ao27 ++ ([g20] ++ (blkL ao17 ++ (M)))))) := fun h => (o2 g5 h).elim hn8 (fun h => absurd (lt_cell (hE7 0 _ rfl)) (Nat.not_lt.2 h))
  have hE7 : ∀ j v, (cS_api_Tunnel a0 ao1 cap1)[j]? = some v → w87.cell? ⟨g5, 0 + j, none⟩ = some v := fun j v hv => (cell_keep hc87 o1 hn8 (hE7 j v hv))
  have hn8 := q_hn8
  have hM : MS ([g37] ++ (blkL ao35 ++ (blkL ao32 ++ (blkL ao27 ++ ([g20] ++ (blkL ao17 ++ (M))))))) w87 := (hM.chg hc87)
  have hC := hC.trans hc87 (Ok.nil _ _)
  refine seg ha 1 [(50, .bool t87), (1, .slice ao2 a1.length cap2), (2, .pointer (some ⟨g5, 0, none⟩)), (5, .bool t10), (6, .slice ao17 t16.length cap17), (7, .pointer (some ⟨g20, 0, none⟩)), (8, .slice ao32 t31.1.length cap32), (9, .int .i64 t31.2), (10, .pointer (some ⟨g37, 0, none⟩)), (11, .int .i64 t34.2)] (by kernel_rfl) fun a ha => ?_
  rcases Bool.eq_false_or_eq_true (t87) with hb88 | hb88
  ·have ha := ha.lit hb88
   have H := ite_t hb88 H
   refine sgh ha 1 [2] [(1, .slice ao2 a1.length cap2), (2, .pointer (some ⟨g5, 0, none⟩)), (5, .bool t10), (6, .slice ao17 t16.length cap17), (7, .pointer (some ⟨g20, 0, none⟩)), (8, .slice ao32 t31.1.length cap32), (9, .int .i64 t31.2), (10, .pointer (some ⟨g37, 0, none⟩)), (11, .int .i64 t34.2), (50, .bool true), (51, .pointer (some ⟨g20, 20, none⟩))] (by kernel_rfl) fun a ha => ?_
   refine ld (v := .slice ao27 t26.length cap27) ha rfl (by kernel_rfl) rfl rfl rfl (hBg20.cell' (o := 20) rfl (by kernel_rfl)) fun a ha => ?_
   refine sgh ha 1 [2] [(1, .slice ao2 a1.length cap2), (2, .pointer (some ⟨g5, 0, none⟩)), (5, .bool t10), (6, .slice ao17 t16.length cap17), (7, .pointer (some ⟨g20, 0, none⟩)), (8, .slice ao32 t31.1.length cap32), (9, .int .i64 t31.2), (10, .pointer (some ⟨g37, 0, none⟩)), (11, .int .i64 t34.2), (50, .bool true), (52, .slice ao27 t26.length cap27), (53, .pointer (some ⟨g5, 0 + 20, none⟩))] (by kernel_rfl) fun a ha => ?_
   refine ld ha rfl (by kernel_rfl) rfl rfl rfl (hE7 20 (.slice ao1 a0.Id.length cap1) (by kernel_rfl)) fun a ha => ?_
   obtain ⟨t89, H89, H⟩ := bind_some H
   refine cl ha (by rfl) (by kernel_rfl) (by rfl) (by rfl) (by rfl) (Kept.walk w87 _ hM t26 ao27 cap27 f27 a0.Id ao1 cap1 f1 _ H89) ?_
   rintro _ w89 ⟨rfl, hc89, hMn⟩ a ha
   have o1 : Ok [] ([g37] ++ (blkL ao35 ++ (blkL ao32 ++ (blkL ao27 ++ ([g20] ++ (blkL ao17 ++ (M))))))) w87.heap.size := Ok.nil _ _
   have o2 : Ok ([g37] ++ (blkL ao35 ++ (blkL ao32 ++ (blkL ao27 ++ ([g20] ++ (blkL ao17 ++ (M))))))) ([g37] ++ (blkL ao35 ++ (blkL ao32 ++ (blkL ao27 ++ ([g20] ++ (blkL ao17 ++ (M))))))) w87.heap.size := (Ok.refl _ _)
   have f2 := f2.chg hc89 o1 o2
   have f1 := f1.chg hc89 o1 o2
   have f17 := f17.chg hc89 o1 o2 (fun _ _ h => nomatch h) (fun _ h => mr (mr (mr (mr (mr (ml h))))))
   have f32 := f32.chg hc89 o1 o2 (fun _ _ h => nomatch h) (fun _ h => mr (mr (ml h)))
   have f27 := f27.chg hc89 o1 o2 (fun _ _ h => nomatch h) (fun _ h => mr (mr (mr (ml h))))
   have f35 := f35.chg hc89 o1 o2 (fun _ _ h => nomatch h) (fun _ h => mr (ml h))
   have hBg20 := hBg20.chg hc89 (fun h => nomatch h)
   have hBg37 := hBg37.chg hc89 (fun h => nomatch h)
   have q_hn8 : g5 ∉ [g37] ++ (blkL ao35 ++ (blkL ao32 ++ (blkL ao27 ++ ([g20] ++ (blkL ao17 ++ (M)))))) := fun h => (o2 g5 h).elim hn8 (fun h => absurd (lt_cell (hE7 0 _ rfl)) (Nat.not_lt.2 h))
   have hE7 : ∀ j v, (cS_api_Tunnel a0 ao1 cap1)[j]? = some v → w89.cell? ⟨g5, 0 + j, none⟩ = some v := fun j v hv => (cell_keep hc89 o1 hn8 (hE7 j v hv))
   have hn8 := q_hn8
   have hM : MS ([g37] ++ (blkL ao35 ++ (blkL ao32 ++ (blkL ao27 ++ ([g20] ++ (blkL ao17 ++ (M))))))) w89 := (hM.chg hc89)
   have hC := hC.trans hc89 (Ok.nil _ _)
   refine sgh ha 2 [3, 0] [(1, .slice ao2 a1.length cap2), (2, .pointer (some ⟨g5, 0, none⟩)), (5, .bool t10), (6, .slice ao17 t16.length cap17), (7, .pointer (some ⟨g20, 0, none⟩)), (8, .slice ao32 t31.1.length cap32), (9, .int .i64 t31.2), (10, .pointer (some ⟨g37, 0, none⟩)), (11, .int .i64 t34.2), (12, .bool t89)] (by kernel_rfl) fun a ha => ?_
   obtain rfl := Option.some.inj H
   exact J43 _ _ (ha.sel (by kernel_rfl)) f2 f1 f17 f32 f27 f35 hBg20 hBg37 hE7 hn8 hC hM
  ·have ha := ha.lit hb88
   have H := ite_f hb88 H
   refine sgh ha 7 [1, 1, 1, 1, 1, 4, 0] [(1, .slice ao2 a1.length cap2), (2, .pointer (some ⟨g5, 0, none⟩)), (5, .bool t10), (6, .slice ao17 t16.length cap17), (7, .pointer (some ⟨g20, 0, none⟩)), (8, .slice ao32 t31.1.length cap32), (9, .int .i64 t31.2), (10, .pointer (some ⟨g37, 0, none⟩)), (11, .int .i64 t34.2), (12, .bool false)] (by kernel_rfl) fun a ha => ?_
   obtain rfl := Option.some.inj H
   exact J43 _ _ (ha.sel (by kernel_rfl)) f2 f1 f17 f32 f27 f35 hBg20 hBg37 hE7 hn8 hC hM
end Go.E
