/- What the functions that the law reaches compute, and the walks that show it. -/
import Derived.Test.YtildkadbjkfgfaaGreatDoorEngU
import Derived.Test.YtildkadbjkfgfaaGreatDoorShelf
import Derived.Test.YtildkadbjkfgfaaGreatDoorEngX
import Derived.Test.YtildkadbjkfgfaaGreatDoorEngQ
import Derived.Test.YtildkadbjkfgfaaGreatDoorEngY
import Derived.Test.YtildkadbjkfgfaaGreatDoorEngZ
import Derived.Test.YtildkadbjkfgfaaGreatDoorProg
import Derived.Test.YtildkadbjkfgfaaGreatDoorGenJoinsKeepsP0
set_option linter.unusedVariables false
set_option linter.unusedSimpArgs false
namespace Go.E
open Go.RowKit Go.Proofs
/-! the comparisons, to the letter of the world -/
def sgnS (x y : List UInt8) : Int := if Op.bytesLess x y = true then -1 else if (!(Op.bytesLess x y || x == y)) = true then 1 else 0
set_option maxRecDepth 100000 in
theorem nan_exact (w : World) (x : List UInt8) : To Tryz.prog 46 [.string (bstr x)] w fun v w' => v = .bool false ∧ w' = w := by
  refine ent Tryz.func46 rfl [(0, .string (bstr x))] rfl (by rfl) fun a ha => ?_
  refine wp_seq_k fun K hK => ?_
  refine wp_region_lit ?_
  refine seg ha 1 [(0, .string (bstr x))] (by kernel_rfl) fun a ha => ?_
  refine hK _ _ ?_; clear hK K
  refine wp_seq_k fun K hK => ?_
  refine wp_region_lit ?_
  refine seg ha 4 [(2, .bool (!((bstr x).toList == (bstr x).toList)))] (by kernel_rfl) fun a ha => ?_
  refine hK _ _ ?_; clear hK K
  refine wp_ret ?_
  exact rt1 ha rfl rfl ⟨by simp, rfl⟩
set_option maxRecDepth 100000 in
theorem cmps_exact (w : World) (x y : List UInt8) : To Tryz.prog 29 [.string (bstr x), .string (bstr y)] w fun v w' => v = .int .i64 (sgnS x y) ∧ w' = w := by
  have ex : (bstr x).toList = x := by rw [Go.Lib.toList_data]; rfl
  have ey : (bstr y).toList = y := by rw [Go.Lib.toList_data]; rfl
  refine ent Tryz.func29 rfl [(0, .string (bstr x)), (1, .string (bstr y))] rfl (by rfl) fun a ha => ?_
  refine wp_seq_k fun K hK => ?_
  refine wp_region_lit ?_
  refine seg ha 1 [(0, .string (bstr x)), (1, .string (bstr y))] (by kernel_rfl) fun a ha => ?_
  refine hK _ _ ?_; clear hK K
  refine wp_seq_k fun K hK => ?_
  refine wp_region_lit ?_
  refine seg ha 1 [(0, .string (bstr x)), (1, .string (bstr y)), (7, .string (bstr x))] (by kernel_rfl) fun a ha => ?_
  refine cl ha (by rfl) (by kernel_rfl) (by rfl) (by rfl) (by rfl) (nan_exact w x) ?_
  rintro _ w1 ⟨rfl, rfl⟩ a ha
  refine seg ha 1 [(0, .string (bstr x)), (1, .string (bstr y)), (5, .bool false)] (by kernel_rfl) fun a ha => ?_
  refine hK _ _ ?_; clear hK K
  refine wp_seq_k fun K hK => ?_
  refine wp_region_lit ?_
  refine seg ha 1 [(0, .string (bstr x)), (1, .string (bstr y)), (5, .bool false), (9, .string (bstr y))] (by kernel_rfl) fun a ha => ?_
  refine cl ha (by rfl) (by kernel_rfl) (by rfl) (by rfl) (by rfl) (nan_exact w1 y) ?_
  rintro _ w2 ⟨rfl, rfl⟩ a ha
  refine seg ha 1 [(0, .string (bstr x)), (1, .string (bstr y)), (5, .bool false), (6, .bool false)] (by kernel_rfl) fun a ha => ?_
  refine hK _ _ ?_; clear hK K
  refine wp_seq_k fun K hK => ?_
  refine wp_seq_k fun K2 hK2 => ?_
  refine wp_region_lit ?_
  refine seg ha 1 [(0, .string (bstr x)), (1, .string (bstr y)), (6, .bool false), (11, .bool false)] (by kernel_rfl) fun a ha => ?_
  refine hK2 _ _ ?_; clear hK2 K2
  refine cnd ha rfl (fun h => nomatch h) (fun _ => ?_)
  refine wp_skip ?_
  refine hK _ _ ?_; clear hK K
  refine wp_seq_k fun K hK => ?_
  refine wp_seq_k fun K2 hK2 => ?_
  refine wp_region_lit ?_
  refine seg ha 1 [(0, .string (bstr x)), (1, .string (bstr y)), (13, .bool false)] (by kernel_rfl) fun a ha => ?_
  refine hK2 _ _ ?_; clear hK2 K2
  refine cnd ha rfl (fun h => nomatch h) (fun _ => ?_)
  refine wp_skip ?_
  refine hK _ _ ?_; clear hK K
  refine wp_seq_k fun K hK => ?_
  refine wp_seq_k fun K2 hK2 => ?_
  refine wp_region_lit ?_
  refine seg ha 3 [(0, .string (bstr x)), (1, .string (bstr y)), (16, .bool (Op.bytesLess (bstr x).toList (bstr y).toList))] (by kernel_rfl) fun a ha => ?_
  refine hK2 _ _ ?_; clear hK2 K2
  refine cnd ha rfl (fun h => ?_) (fun h => ?_)
  · refine wp_seq_k fun K2 hK2 => ?_
    refine wp_region_lit ?_
    refine seg ha 1 [(4, .int .i64 (-1))] (by kernel_rfl) fun a ha => ?_
    refine hK2 _ _ ?_; clear hK2 K2
    refine wp_ret ?_
    simp only [Exit.then, Exit.inBlock]
    rw [ex, ey] at h
    exact rt1 ha rfl rfl ⟨by unfold sgnS; rw [if_pos h], rfl⟩
  refine wp_skip ?_
  refine hK _ _ ?_; clear hK K
  refine wp_seq_k fun K hK => ?_
  refine wp_seq_k fun K2 hK2 => ?_
  refine wp_region_lit ?_
  refine seg ha 2 [(17, .string (bstr x)), (18, .string (bstr y))] (by kernel_rfl) fun a ha => ?_
  refine hop (v := .bool (!(Op.bytesLess (bstr x).toList (bstr y).toList || (bstr x).toList == (bstr y).toList))) (w' := w2) ha rfl rfl rfl (sgt_run ha (by rfl) (by rfl) _) fun a ha => ?_
  refine wpl_end ?_
  have ha := ha.sel (env' := [(19, .bool (!(Op.bytesLess (bstr x).toList (bstr y).toList || (bstr x).toList == (bstr y).toList)))]) (by kernel_rfl)
  refine hK2 _ _ ?_; clear hK2 K2
  rw [ex, ey] at h
  have hn : ¬ Op.bytesLess x y = true := by rw [h]; decide
  refine cnd ha rfl (fun h2 => ?_) (fun h2 => ?_)
  · refine wp_seq_k fun K2 hK2 => ?_
    refine wp_region_lit ?_
    refine seg ha 1 [(4, .int .i64 1)] (by kernel_rfl) fun a ha => ?_
    refine hK2 _ _ ?_; clear hK2 K2
    refine wp_ret ?_
    simp only [Exit.then, Exit.inBlock]
    rw [ex, ey] at h2
    exact rt1 ha rfl rfl ⟨by unfold sgnS; rw [if_neg hn, if_pos h2], rfl⟩
  refine wp_skip ?_
  refine hK _ _ ?_; clear hK K
  refine wp_seq_k fun K hK => ?_
  refine wp_region_lit ?_
  refine seg ha 1 [(4, .int .i64 0)] (by kernel_rfl) fun a ha => ?_
  refine hK _ _ ?_; clear hK K
  refine wp_ret ?_
  rw [ex, ey] at h2
  have h2 : ¬ (!(Op.bytesLess x y || x == y)) = true := by rw [h2]; decide
  exact rt1 ha rfl rfl ⟨by unfold sgnS; rw [if_neg hn, if_neg h2], rfl⟩
def sgnI (x y : Int) : Int := if x < y then -1 else if x > y then 1 else 0
set_option maxRecDepth 100000 in
theorem nani_exact (w : World) (x : Int) : To Tryz.prog 60 [.int .i64 x] w fun v w' => v = .bool false ∧ w' = w := by
  refine ent Tryz.func60 rfl [(0, .int .i64 x)] rfl (by rfl) fun a ha => ?_
  refine wp_seq_k fun K hK => ?_
  refine wp_region_lit ?_
  refine seg ha 1 [(0, .int .i64 x)] (by kernel_rfl) fun a ha => ?_
  refine hK _ _ ?_; clear hK K
  refine wp_seq_k fun K hK => ?_
  refine wp_region_lit ?_
  refine seg ha 4 [(2, .bool (x != x))] (by kernel_rfl) fun a ha => ?_
  refine hK _ _ ?_; clear hK K
  refine wp_ret ?_
  exact rt1 ha rfl rfl ⟨by simp, rfl⟩
set_option maxRecDepth 100000 in
theorem cmpi_exact (w : World) (x y : Int) : To Tryz.prog 49 [.int .i64 x, .int .i64 y] w fun v w' => v = .int .i64 (sgnI x y) ∧ w' = w := by
  refine ent Tryz.func49 rfl [(0, .int .i64 x), (1, .int .i64 y)] rfl (by rfl) fun a ha => ?_
  refine wp_seq_k fun K hK => ?_
  refine wp_region_lit ?_
  refine seg ha 1 [(0, .int .i64 x), (1, .int .i64 y)] (by kernel_rfl) fun a ha => ?_
  refine hK _ _ ?_; clear hK K
  refine wp_seq_k fun K hK => ?_
  refine wp_region_lit ?_
  refine seg ha 1 [(0, .int .i64 x), (1, .int .i64 y), (7, .int .i64 x)] (by kernel_rfl) fun a ha => ?_
  refine cl ha (by rfl) (by kernel_rfl) (by rfl) (by rfl) (by rfl) (nani_exact w x) ?_
  rintro _ w1 ⟨rfl, rfl⟩ a ha
  refine seg ha 1 [(0, .int .i64 x), (1, .int .i64 y), (5, .bool false)] (by kernel_rfl) fun a ha => ?_
  refine hK _ _ ?_; clear hK K
  refine wp_seq_k fun K hK => ?_
  refine wp_region_lit ?_
  refine seg ha 1 [(0, .int .i64 x), (1, .int .i64 y), (5, .bool false), (9, .int .i64 y)] (by kernel_rfl) fun a ha => ?_
  refine cl ha (by rfl) (by kernel_rfl) (by rfl) (by rfl) (by rfl) (nani_exact w1 y) ?_
  rintro _ w2 ⟨rfl, rfl⟩ a ha
  refine seg ha 1 [(0, .int .i64 x), (1, .int .i64 y), (5, .bool false), (6, .bool false)] (by kernel_rfl) fun a ha => ?_
  refine hK _ _ ?_; clear hK K
  refine wp_seq_k fun K hK => ?_
  refine wp_seq_k fun K2 hK2 => ?_
  refine wp_region_lit ?_
  refine seg ha 1 [(0, .int .i64 x), (1, .int .i64 y), (6, .bool false), (11, .bool false)] (by kernel_rfl) fun a ha => ?_
  refine hK2 _ _ ?_; clear hK2 K2
  refine cnd ha rfl (fun h => nomatch h) (fun _ => ?_)
  refine wp_skip ?_
  refine hK _ _ ?_; clear hK K
  refine wp_seq_k fun K hK => ?_
  refine wp_seq_k fun K2 hK2 => ?_
  refine wp_region_lit ?_
  refine seg ha 1 [(0, .int .i64 x), (1, .int .i64 y), (13, .bool false)] (by kernel_rfl) fun a ha => ?_
  refine hK2 _ _ ?_; clear hK2 K2
  refine cnd ha rfl (fun h => nomatch h) (fun _ => ?_)
  refine wp_skip ?_
  refine hK _ _ ?_; clear hK K
  refine wp_seq_k fun K hK => ?_
  refine wp_seq_k fun K2 hK2 => ?_
  refine wp_region_lit ?_
  refine seg ha 3 [(0, .int .i64 x), (1, .int .i64 y), (16, .bool (decide (x < y)))] (by kernel_rfl) fun a ha => ?_
  refine hK2 _ _ ?_; clear hK2 K2
  refine cnd ha rfl (fun h => ?_) (fun h => ?_)
  · refine wp_seq_k fun K2 hK2 => ?_
    refine wp_region_lit ?_
    refine seg ha 1 [(4, .int .i64 (-1))] (by kernel_rfl) fun a ha => ?_
    refine hK2 _ _ ?_; clear hK2 K2
    refine wp_ret ?_
    simp only [Exit.then, Exit.inBlock]
    have h := of_decide_eq_true h
    exact rt1 ha rfl rfl ⟨by unfold sgnI; rw [if_pos h], rfl⟩
  refine wp_skip ?_
  refine hK _ _ ?_; clear hK K
  refine wp_seq_k fun K hK => ?_
  refine wp_seq_k fun K2 hK2 => ?_
  refine wp_region_lit ?_
  refine seg ha 3 [(19, .bool (decide (x > y)))] (by kernel_rfl) fun a ha => ?_
  refine hK2 _ _ ?_; clear hK2 K2
  have hn : ¬ x < y := of_decide_eq_false h
  refine cnd ha rfl (fun h2 => ?_) (fun h2 => ?_)
  · refine wp_seq_k fun K2 hK2 => ?_
    refine wp_region_lit ?_
    refine seg ha 1 [(4, .int .i64 1)] (by kernel_rfl) fun a ha => ?_
    refine hK2 _ _ ?_; clear hK2 K2
    refine wp_ret ?_
    simp only [Exit.then, Exit.inBlock]
    have h2 := of_decide_eq_true h2
    exact rt1 ha rfl rfl ⟨by unfold sgnI; rw [if_neg hn, if_pos h2], rfl⟩
  refine wp_skip ?_
  refine hK _ _ ?_; clear hK K
  refine wp_seq_k fun K hK => ?_
  refine wp_region_lit ?_
  refine seg ha 1 [(4, .int .i64 0)] (by kernel_rfl) fun a ha => ?_
  refine hK _ _ ?_; clear hK K
  refine wp_ret ?_
  have h2 : ¬ x > y := of_decide_eq_false h2
  exact rt1 ha rfl rfl ⟨by unfold sgnI; rw [if_neg hn, if_neg h2], rfl⟩
set_option maxRecDepth 100000 in
theorem or_exact (W : World) (g : Nat) (c1 c2 : Int) (hb : Box W g [.int .i64 c1, .int .i64 c2]) :
    To Tryz.prog 41 [.slice (some ⟨g, 0, none⟩) 2 2] W fun v w' => v = .int .i64 (if c1 ≠ 0 then c1 else c2) ∧ w' = W := by
  have hR : RSl (rInt .i64) 3 W [] (some ⟨g, 0, none⟩) 2 [c1, c2] := by
    obtain ⟨T', hb⟩ := hb
    exact ⟨Nat.le_refl _, by decide, .inr ⟨g, 0, _, (T', (0, 0)), rfl, (fun h => nomatch h), hb, ⟨[.int .i64 c1], [.int .i64 c2], rfl, rfl, ⟨[.int .i64 c2], [], rfl, rfl, rfl⟩⟩⟩⟩
  refine ent Tryz.func41 rfl [(0, .slice (some ⟨g, 0, none⟩) [c1, c2].length 2)] rfl (by rfl) fun a ha => ?_
  refine wp_seq_k fun K hK => ?_
  refine wp_region_lit ?_
  refine seg ha 1 [(0, .slice (some ⟨g, 0, none⟩) [c1, c2].length 2)] (by kernel_rfl) fun a ha => ?_
  refine hK _ _ ?_; clear hK K
  refine wp_seq_k fun K hK => ?_
  refine wp_region_lit ?_
  refine seg ha 1 [(0, .slice (some ⟨g, 0, none⟩) [c1, c2].length 2), (3, .int .i64 0)] (by kernel_rfl) fun a ha => ?_
  refine hK _ _ ?_; clear hK K
  refine wp_seq_k fun K hK => ?_
  refine wp_seq_k fun K2 hK2 => ?_
  refine wp_region_lit ?_
  refine seg ha 3 [(3, .int .i64 0), (6, .slice (some ⟨g, 0, none⟩) [c1, c2].length 2), (7, .int .i64 2), (8, .int .i64 ((0 : Nat) : Int))] (by kernel_rfl) fun a ha => ?_
  refine hK2 _ _ ?_; clear hK2 K2
  refine wp_block ?_
  have J : ∀ (a : Act), Has a Tryz.f41.ntmps [(3, .int .i64 0)] → c1 = 0 → c2 = 0 → K a W := by
    intro a ha h1 h2
    refine hK _ _ ?_; clear hK K
    refine wp_seq_k fun K hK => ?_
    refine wp_region_lit ?_
    refine seg ha 2 [(2, .int .i64 0)] (by kernel_rfl) fun a ha => ?_
    refine hK _ _ ?_; clear hK K
    refine wp_ret ?_
    exact rt1 ha rfl rfl ⟨by simp [h1, h2], rfl⟩
  refine wp_loop_ghost (fun kk a w1 => ∃ k : Nat, kk = 2 - k ∧ k ≤ 2 ∧ (1 ≤ k → c1 = 0) ∧ (2 ≤ k → c2 = 0) ∧ Has a Tryz.f41.ntmps [(3, .int .i64 0), (6, .slice (some ⟨g, 0, none⟩) [c1, c2].length 2), (7, .int .i64 2), (8, .int .i64 (k : Int))] ∧ w1 = W) 2 ?_ ?_
  · exact ⟨0, rfl, by omega, fun h => by omega, fun h => by omega, ha, rfl⟩
  rintro kk a w1 ⟨k, rfl, hk, h1, h2, ha, rfl⟩
  refine wp_seq_k fun K2 hK2 => ?_
  refine wp_region_lit ?_
  refine seg ha 1 [(3, .int .i64 0), (6, .slice (some ⟨g, 0, none⟩) [c1, c2].length 2), (7, .int .i64 2), (8, .int .i64 (k : Int)), (9, .bool (decide ((k : Int) < 2)))] (by kernel_rfl) fun a ha => ?_
  refine hK2 _ _ ?_; clear hK2 K2
  refine wp_seq_k fun KA hKA => ?_
  refine cnd ha rfl (fun h3 => ?_) (fun h3 => ?_)
  rotate_left
  · refine wp_exit ?_
    simp only [Exit.then, Exit.inBlock, ↓reduceIte, Nat.reduceEqDiff]
    have h3 : ¬ (k : Int) < 2 := of_decide_eq_false h3
    exact J _ (ha.sel (by kernel_rfl)) (h1 (by omega)) (h2 (by omega))
  have h3 : (k : Int) < 2 := of_decide_eq_true h3
  refine wp_skip ?_
  refine hKA _ _ ?_; clear hKA KA
  refine wp_seq_k fun KB hKB => ?_
  refine wp_block ?_
  refine wp_seq_k fun K2 hK2 => ?_
  refine wp_region_lit ?_
  refine ix (r := rInt .i64) (T := 3) (M := []) (xs := [c1, c2]) (k := .i64) (i := (k : Int)) ha (by kernel_rfl) (by kernel_rfl) rfl rfl rfl rfl rfl hR (by omega) (by simpa using h3) fun a gx ox csx hgx hrx hcx ha => ?_
  have hcs : csx = [.int .i64 ([c1, c2][(k : Int).toNat]'(by simp; omega))] := hrx
  refine ld (v := .int .i64 ([c1, c2][(k : Int).toNat]'(by simp; omega))) ha rfl (by kernel_rfl) rfl rfl rfl (hcx 0 _ (by rw [hcs]; rfl)) fun a ha => ?_
  generalize hv : [c1, c2][(k : Int).toNat]'(by simp; omega) = cv at ha
  refine seg ha 1 [(3, .int .i64 0), (5, .int .i64 cv), (6, .slice (some ⟨g, 0, none⟩) [c1, c2].length 2), (7, .int .i64 2), (8, .int .i64 (k : Int))] (by kernel_rfl) fun a ha => ?_
  refine hK2 _ _ ?_; clear hK2 K2
  refine wp_seq_k fun K2 hK2 => ?_
  refine wp_region_lit ?_
  refine seg ha 3 [(3, .int .i64 0), (5, .int .i64 cv), (6, .slice (some ⟨g, 0, none⟩) [c1, c2].length 2), (7, .int .i64 2), (8, .int .i64 (k : Int)), (14, .bool (cv != 0))] (by kernel_rfl) fun a ha => ?_
  refine hK2 _ _ ?_; clear hK2 K2
  refine cnd ha rfl (fun h4 => ?_) (fun h4 => ?_)
  · have h4 : cv ≠ 0 := by simpa using h4
    refine wp_seq_k fun K2 hK2 => ?_
    refine wp_region_lit ?_
    refine seg ha 2 [(2, .int .i64 cv)] (by kernel_rfl) fun a ha => ?_
    refine hK2 _ _ ?_; clear hK2 K2
    refine wp_ret ?_
    simp only [Exit.then, Exit.inBlock]
    refine rt1 ha rfl rfl ⟨?_, rfl⟩
    rcases (show k = 0 ∨ k = 1 by omega) with rfl | rfl
    · have : c1 = cv := hv
      rw [this, if_pos h4]
    · have : c2 = cv := hv
      rw [h1 (by omega), this]; simp
  have h4 : cv = 0 := by simpa using h4
  refine wp_skip ?_
  refine hKB _ _ ?_; clear hKB KB
  refine wp_region_lit ?_
  refine seg ha 2 [(3, .int .i64 0), (6, .slice (some ⟨g, 0, none⟩) [c1, c2].length 2), (7, .int .i64 2), (8, .int .i64 (IntKind.i64.wrap ((k : Int) + 1)))] (by kernel_rfl) fun a ha => ?_
  have e : IntKind.i64.wrap ((k : Int) + 1) = ((k + 1 : Nat) : Int) := by rw [IntKind.wrap_i64]; omega
  rw [e] at ha
  refine ⟨2 - (k + 1), by omega, k + 1, rfl, by omega, fun _ => ?_, fun h => ?_, ha, rfl⟩
  · rcases (show k = 0 ∨ k = 1 by omega) with rfl | rfl
    · exact hv.trans h4
    · exact h1 (by omega)
  · obtain rfl : k = 1 := by omega
    exact hv.trans h4
set_option maxRecDepth 100000 in
theorem bcmp_exact {w : World} {M M' : List Nat} {ao ao' : Option Addr} {cap cap' : Nat} {xs ys : List Int} (f1 : RSl (rInt .u8) 5 w M ao cap xs) (f2 : RSl (rInt .u8) 5 w M' ao' cap' ys) :
    To Tryz.prog 61 [.slice ao xs.length cap, .slice ao' ys.length cap'] w fun v w' => v = .int .i64 (Go.Lib.compareBytes (b2s xs) (b2s ys)) ∧ w' = w := by
  refine ent Tryz.func61 rfl [(0, .slice ao xs.length cap), (1, .slice ao' ys.length cap')] rfl (by rfl) fun a ha => ?_
  refine wp_seq_k fun K hK => ?_
  refine wp_region_lit ?_
  refine seg ha 1 [(0, .slice ao xs.length cap), (1, .slice ao' ys.length cap')] (by kernel_rfl) fun a ha => ?_
  refine hK _ _ ?_; clear hK K
  refine wp_seq_k fun K hK => ?_
  refine wp_region_lit ?_
  refine seg ha 2 [(5, .slice ao xs.length cap), (6, .slice ao' ys.length cap')] (by kernel_rfl) fun a ha => ?_
  refine cx (fn := Tryz.f95) ha (vals := [.slice ao xs.length cap, .slice ao' ys.length cap']) (by rfl) (by rfl) (by rfl) (by rfl) (by rfl) (by rfl) (by rfl) (by rfl) (by rfl) (run_bcmp f1 f2) fun a ha => ?_
  refine seg ha 1 [(4, .int .i64 (Go.Lib.compareBytes (b2s xs) (b2s ys)))] (by kernel_rfl) fun a ha => ?_
  refine hK _ _ ?_; clear hK K
  refine wp_ret ?_
  exact rt1 ha rfl rfl ⟨rfl, rfl⟩
set_option maxRecDepth 100000 in
theorem order_exact {w : World} {M M' : List Nat} {ao ao' : Option Addr} {cap cap' : Nat} {xs ys : List Int} (f1 : RSl (rInt .u8) 5 w M ao cap xs) (f2 : RSl (rInt .u8) 5 w M' ao' cap' ys) :
    To Tryz.prog 50 [.slice ao xs.length cap, .slice ao' ys.length cap'] w fun v w' => v = .int .i64 (Go.Lib.compareBytes (b2s xs) (b2s ys)) ∧ w' = w := by
  refine ent Tryz.func50 rfl [(0, .slice ao xs.length cap), (1, .slice ao' ys.length cap')] rfl (by rfl) fun a ha => ?_
  refine wp_seq_k fun K hK => ?_
  refine wp_region_lit ?_
  refine seg ha 1 [(0, .slice ao xs.length cap), (1, .slice ao' ys.length cap')] (by kernel_rfl) fun a ha => ?_
  refine hK _ _ ?_; clear hK K
  refine wp_seq_k fun K hK => ?_
  refine wp_region_lit ?_
  refine seg ha 2 [(5, .slice ao xs.length cap), (6, .slice ao' ys.length cap')] (by kernel_rfl) fun a ha => ?_
  refine cl ha (by rfl) (by kernel_rfl) (by rfl) (by rfl) (by rfl) (bcmp_exact f1 f2) ?_
  rintro _ w1 ⟨rfl, rfl⟩ a ha
  refine seg ha 1 [(4, .int .i64 (Go.Lib.compareBytes (b2s xs) (b2s ys)))] (by kernel_rfl) fun a ha => ?_
  refine hK _ _ ?_; clear hK K
  refine wp_ret ?_
  exact rt1 ha rfl rfl ⟨rfl, rfl⟩
def cmpA (x y : S_api_Addr) : Int := if sgnI x.Size y.Size ≠ 0 then sgnI x.Size y.Size else Go.Lib.compareBytes (b2s (arL 16 x.B)) (b2s (arL 16 y.B))
set_option maxRecDepth 100000 in
theorem addr_exact (x y : S_api_Addr) (W : World) : Calls Tryz.prog 33 #[.agg (cS_api_Addr x).toArray, .agg (cS_api_Addr y).toArray] W fun e w' => e = .returned (.int .i64 (cmpA x y)) ∧ ∃ q os', w' = Go.Sort.grow (W.drewN q) os' := by
  have h : To Tryz.prog 33 [.agg (cS_api_Addr x).toArray, .agg (cS_api_Addr y).toArray] W fun v w' => v = .int .i64 (cmpA x y) ∧ ∃ q os', w' = Go.Sort.grow (W.drewN q) os' := by
    refine ent Tryz.func33 rfl [(0, .agg (cS_api_Addr x).toArray), (1, .agg (cS_api_Addr y).toArray)] rfl (by rfl) fun a ha => ?_
    refine wp_seq_k fun K hK => ?_
    refine wp_region_lit ?_
    have n1 := New.alloc W (.cells (cS_api_Addr x).toArray 25 (0, 0))
    refine bxE (cs := cS_api_Addr x) ha rfl rfl rfl rfl rfl fun a ha => ?_
    have n2 := New.alloc (W.alloc (.cells (cS_api_Addr x).toArray 25 (0, 0))) (.cells (cS_api_Addr y).toArray 25 (0, 0))
    refine bxE (cs := cS_api_Addr y) ha rfl rfl rfl rfl rfl fun a ha => ?_
    have b1 := n1.box.chg n2.chg (fun h => nomatch h)
    have b2 := n2.box
    have eW : (W.alloc (.cells (cS_api_Addr x).toArray 25 (0, 0))).alloc (.cells (cS_api_Addr y).toArray 25 (0, 0)) = Go.Sort.grow W #[.cells (cS_api_Addr x).toArray 25 (0, 0), .cells (cS_api_Addr y).toArray 25 (0, 0)] := by
      rw [Go.Sort.alloc_eq_grow, Go.Sort.alloc_eq_grow, Go.Sort.grow_grow]; rfl
    rw [eW] at b1 b2
    rw [eW]
    generalize hg2 : (W.alloc (.cells (cS_api_Addr x).toArray 25 (0, 0))).heap.size = g2 at *
    generalize hg1 : W.heap.size = g1 at *
    generalize hW2 : Go.Sort.grow W #[.cells (cS_api_Addr x).toArray 25 (0, 0), .cells (cS_api_Addr y).toArray 25 (0, 0)] = W2 at *
    refine seg ha 1 [(2, .pointer (some ⟨g1, 0, none⟩)), (3, .pointer (some ⟨g2, 0, none⟩))] (by kernel_rfl) fun a ha => ?_
    refine hK _ _ ?_; clear hK K
    refine wp_seq_k fun K hK => ?_
    refine drqn 10 (fun w' => ∃ q, w' = W2.drewN q) (by kernel_rfl) (by kernel_rfl) ⟨1, rfl⟩ ?_
    have bx1 : ∀ q, Box (W2.drewN q) g1 (cS_api_Addr x) := fun q => b1.chg (chg_drewN W2 q) (fun h => nomatch h)
    have bx2 : ∀ q, Box (W2.drewN q) g2 (cS_api_Addr y) := fun q => b2.chg (chg_drewN W2 q) (fun h => nomatch h)
    refine qp 0 (.pointer (some ⟨g1, 0, none⟩)) ha rfl rfl rfl (by kernel_rfl) fun a ha => ?_
    refine qv (v := .int .i64 x.Size) ha rfl rfl rfl (fun w' hs => by
      obtain ⟨q, rfl⟩ := hs
      exact ld_run ha rfl (by kernel_rfl) ((bx1 q).cell' (o := 0) rfl rfl)) fun a ha => ?_
    refine qp 0 (.pointer (some ⟨g2, 0, none⟩)) ha rfl rfl rfl (by kernel_rfl) fun a ha => ?_
    refine qv (v := .int .i64 y.Size) ha rfl rfl rfl (fun w' hs => by
      obtain ⟨q, rfl⟩ := hs
      exact ld_run ha rfl (by kernel_rfl) ((bx2 q).cell' (o := 0) rfl rfl)) fun a ha => ?_
    refine qc (vals := [.int .i64 x.Size, .int .i64 y.Size]) (.int .i64 (sgnI x.Size y.Size)) ha (by rfl) (by kernel_rfl) (by rfl) (by rfl) (by rfl) (fun w' hs => by
      obtain ⟨q, rfl⟩ := hs
      exact (cmpi_exact _ x.Size y.Size).mono fun v w'' ⟨hv, hw⟩ => ⟨hv, q, hw⟩) fun a ha => ?_
    refine qp 0 (.pointer (some ⟨g1, 1, none⟩)) ha rfl rfl rfl (by kernel_rfl) fun a ha => ?_
    refine qv (v := .slice (some ⟨g1, 1, none⟩) (arL 16 x.B).length 16) ha rfl rfl rfl (fun w' hs => opk_run ha rfl rfl (fun w => by kernel_rfl)) fun a ha => ?_
    refine qp 0 (.pointer (some ⟨g2, 1, none⟩)) ha rfl rfl rfl (by kernel_rfl) fun a ha => ?_
    refine qv (v := .slice (some ⟨g2, 1, none⟩) (arL 16 y.B).length 16) ha rfl rfl rfl (fun w' hs => opk_run ha rfl rfl (fun w => by kernel_rfl)) fun a ha => ?_
    have hf : ∀ q, To Tryz.prog 50 [.slice (some ⟨g1, 1, none⟩) (arL 16 x.B).length 16, .slice (some ⟨g2, 1, none⟩) (arL 16 y.B).length 16] (W2.drewN q) fun v w' => v = .int .i64 (Go.Lib.compareBytes (b2s (arL 16 x.B)) (b2s (arL 16 y.B))) ∧ w' = W2.drewN q := fun q => by
      have f1 : RSl (rInt .u8) 5 (W2.drewN q) [] (some ⟨g1, 0 + 1, none⟩) 16 (arL 16 x.B) := RSl.ofA [.int .i64 x.Size] [] (Box.cells (bx1 q)) (fun h => nomatch h) (by simp [cS_api_Addr]) rfl
      have f2 : RSl (rInt .u8) 5 (W2.drewN q) [] (some ⟨g2, 0 + 1, none⟩) 16 (arL 16 y.B) := RSl.ofA [.int .i64 y.Size] [] (Box.cells (bx2 q)) (fun h => nomatch h) (by simp [cS_api_Addr]) rfl
      exact order_exact f1 f2
    refine qc (vals := [.slice (some ⟨g1, 1, none⟩) (arL 16 x.B).length 16, .slice (some ⟨g2, 1, none⟩) (arL 16 y.B).length 16]) (.int .i64 (Go.Lib.compareBytes (b2s (arL 16 x.B)) (b2s (arL 16 y.B)))) ha (by rfl) (by kernel_rfl) (by rfl) (by rfl) (by rfl) (fun w' hs => by
      obtain ⟨q, rfl⟩ := hs
      exact (hf q).mono fun v w'' ⟨hv, hw⟩ => ⟨hv, q, hw⟩) fun a ha => ?_
    refine wpQuiet_nil ?_
    rintro w3 ⟨q, rfl⟩
    have n3 := New.alloc (W2.drewN q) (.cells #[.int .i64 (sgnI x.Size y.Size), .int .i64 (Go.Lib.compareBytes (b2s (arL 16 x.B)) (b2s (arL 16 y.B)))] 3 (0, 0))
    refine bslE (vals := [.int .i64 (sgnI x.Size y.Size), .int .i64 (Go.Lib.compareBytes (b2s (arL 16 x.B)) (b2s (arL 16 y.B)))]) (T := 3) ha rfl [.int .i64 (sgnI x.Size y.Size), .int .i64 (Go.Lib.compareBytes (b2s (arL 16 x.B)) (b2s (arL 16 y.B)))] (fun w => by kernel_rfl) rfl rfl rfl fun a ha => ?_
    refine cl ha (by rfl) (by kernel_rfl) (by rfl) (by rfl) (by rfl) (or_exact _ (W2.drewN q).heap.size (sgnI x.Size y.Size) (Go.Lib.compareBytes (b2s (arL 16 x.B)) (b2s (arL 16 y.B))) n3.box) ?_
    rintro _ w4 ⟨rfl, rfl⟩ a ha
    refine seg ha 1 [(4, .int .i64 (cmpA x y))] (by kernel_rfl) fun a ha => ?_
    refine hK _ _ ?_; clear hK K
    refine wp_ret ?_
    refine rt1 ha rfl rfl ⟨rfl, q, #[.cells (cS_api_Addr x).toArray 25 (0, 0), .cells (cS_api_Addr y).toArray 25 (0, 0)] ++ #[.cells #[.int .i64 (sgnI x.Size y.Size), .int .i64 (Go.Lib.compareBytes (b2s (arL 16 x.B)) (b2s (arL 16 y.B)))] 3 (0, 0)], ?_⟩
    rw [Go.Sort.alloc_eq_grow, ← Go.Sort.grow_grow, ← hW2]; rfl
  refine Calls.mono h ?_
  rintro e w' ⟨v, rfl, rfl, hw⟩
  exact ⟨rfl, hw⟩
section
open Go.Sort
theorem sgnS_lt (x y : List UInt8) : sgnS x y < 0 ↔ x < y := by
  unfold sgnS
  rw [bytesLess_eq]
  by_cases h : x < y
  · simp [h]
  · simp [h]
    split <;> simp
theorem ss_swo : SWO (ltOf sgnS) where
  irrefl x := by simp only [ltOf, decide_eq_false_iff_not, sgnS_lt]; exact List.lt_irrefl _
  trans x y z h1 h2 := by simp only [ltOf, decide_eq_true_eq, sgnS_lt] at *; exact List.lt_trans h1 h2
  ntrans x y z h1 h2 := by
    have := swo_ltStr.ntrans x y z
    simp only [ltStr, ltOf, decide_eq_false_iff_not, sgnS_lt] at *; exact this h1 h2
theorem ss_tot : ∀ x y : List UInt8, (ltOf sgnS) x y = false → (ltOf sgnS) y x = false → x = y := by
  intro x y h1 h2
  simp only [ltOf, decide_eq_false_iff_not, sgnS_lt, List.not_lt] at h1 h2
  exact List.le_antisymm h2 h1
def leS (x y : List UInt8) : Bool := !decide (sgnS y x < 0)
theorem sort_strs (w : World) (M : List Nat) (g cap : Nat) (xs : List (List UInt8)) (hl : xs.length < 4611686018427387904) (h : Own rStr 9 w M (some ⟨g, 0, none⟩) cap xs) :
    To Tryz.prog 44 [.slice (some ⟨g, 0, none⟩) xs.length cap, .func (.func 29) #[] #[]] w fun v w' => v = .tuple #[] ∧ Own rStr 9 w' M (some ⟨g, 0, none⟩) cap (xs.mergeSort leS) ∧ Chg [g] w w' := by
  have hH : Holds (fun l => Value.string (bstr l)) w g 0 xs.toArray := holds_one (Own.holds Flat.str rfl (fun _ => rfl) h)
  have hgl : g < w.heap.size := h.lt g (by simp [blkL])
  have hO := Tryz.slices_SortFunc_total (fun l => Value.string (bstr l)) (fun _ => rfl) sgnS ss_swo 29 #[] g 0 cap xs.toArray w (fun args w => run_callFunc (by kernel_rfl) args w) (fun _ _ _ _ x y => Calls.mono (cmps_exact _ x y) (by
    rintro e w' ⟨v, rfl, rfl, rfl⟩
    exact ⟨rfl, 0, #[], by rw [grow_empty]; rfl⟩)) hH hgl (by simpa using hl) ss_tot
  rw [show xs.toArray.size = xs.length by simp] at hO
  refine Calls.mono hO ?_
  rintro e w' ⟨rfl, n, os, rfl⟩
  rw [sortW_one]
  refine ⟨_, rfl, rfl, ?_, sort_chg w g _ n os⟩
  exact Own.sorted (k := 1) Flat.str rfl (fun _ => rfl) h (xs.mergeSort leS).toArray (by simp) n os
theorem comp_len (zs : List (List UInt8)) : (Go.Lib.compact zs).length ≤ zs.length := by
  unfold Go.Lib.compact Go.Lib.compactUpTo
  rw [List.length_map]
  exact Nat.le_trans (List.length_filter_le _ _) (by simp)
theorem compact_strs (w : World) (M : List Nat) (g cap : Nat) (xs : List (List UInt8)) (hl : xs.length < 4611686018427387904) (h : Own rStr 9 w M (some ⟨g, 0, none⟩) cap xs) :
    To Tryz.prog 45 [.slice (some ⟨g, 0, none⟩) xs.length cap] w fun v w' => v = .slice (some ⟨g, 0, none⟩) (Go.Lib.compact xs).length cap ∧ Own rStr 9 w' M (some ⟨g, 0, none⟩) cap (Go.Lib.compact xs) ∧ Chg [g] w w' := by
  have hH : Holds (fun l => Value.string (bstr l)) w g 0 xs.toArray := holds_one (Own.holds Flat.str rfl (fun _ => rfl) h)
  obtain ⟨junk, _, _, hnc, _, _⟩ := Own.raw Flat.str h
  have hO := Tryz.slices_Compact_string g 0 cap xs w hH (by omega) hnc
  refine Calls.mono hO ?_
  rintro e w' ⟨rfl, q, hw⟩
  have hle := comp_len xs
  have hs := Own.sorted (k := 1) Flat.str rfl (fun _ => rfl) h (Go.Lib.compact xs ++ List.replicate (xs.length - (Go.Lib.compact xs).length) []).toArray (by simp; omega) q #[]
  rw [← sortW_one] at hs
  have hc := sort_chg (enc := fun l : List UInt8 => [Value.string (bstr l)]) (k := 1) w g (Go.Lib.compact xs ++ List.replicate (xs.length - (Go.Lib.compact xs).length) []).toArray q #[]
  rw [← sortW_one] at hc
  have e1 : sortWorld (fun l : List UInt8 => Value.string (bstr l)) w g 0 q (Go.Lib.compact xs ++ List.replicate (xs.length - (Go.Lib.compact xs).length) []).toArray #[] = w' := by
    rw [hw]; unfold sortWorld; rw [grow_empty]; rfl
  rw [e1] at hs hc
  refine ⟨_, rfl, rfl, ?_, hc⟩
  have := hs.short (Go.Lib.compact xs).length (by simp)
  simpa using this
end
def zA : S_api_Addr := ⟨0, []⟩
def eqAd (x y : S_api_Addr) : Bool := ((x.Size == y.Size) && ((eqA 16 x.B y.B) && true))
theorem fA : Flat rS_api_Addr cS_api_Addr := ⟨fun _ _ _ _ => ⟨fun h => rS_api_Addr.open h, fun h => h ▸ rS_api_Addr.mk _⟩⟩
theorem lenA (x : S_api_Addr) : (cS_api_Addr x).length = 17 := by simp [cS_api_Addr, cA_length]
theorem oneA (w : World) (x : S_api_Addr) : ∀ v ∈ cS_api_Addr x, v.oneCell' = true := fun v hv => rS_api_Addr.one (w := w) (M := []) (rS_api_Addr.mk x) v hv
def keepA (xs : List S_api_Addr) (i : Nat) : Bool := i == 0 || !eqAd (xs.getD i zA) (xs.getD (i - 1) zA)
def ddA (xs : List S_api_Addr) (m : Nat) : List S_api_Addr := ((List.range m).filter (keepA xs)).map fun i => xs.getD i zA
theorem ddA_succ (xs : List S_api_Addr) (m : Nat) : ddA xs (m + 1) = ddA xs m ++ (if keepA xs m = true then [xs.getD m zA] else []) := by
  unfold ddA
  rw [List.range_succ, List.filter_append, List.map_append]
  by_cases h : keepA xs m = true <;> simp [h]
theorem ddA_all (xs : List S_api_Addr) : ∀ (m : Nat), m ≤ xs.length → (∀ i, i < m → keepA xs i = true) → ddA xs m = xs.take m
  | 0, _, _ => by simp [ddA]
  | m + 1, hm, h => by
    rw [ddA_succ, ddA_all xs m (by omega) (fun i hi => h i (by omega)), if_pos (h m (by omega)), List.take_add_one]
    congr 1
    rw [List.getD_eq_getElem?_getD, List.getElem?_eq_getElem (by omega)]; rfl
theorem ddA_len (xs : List S_api_Addr) (m : Nat) : (ddA xs m).length ≤ m := by
  unfold ddA
  rw [List.length_map]
  exact Nat.le_trans (List.length_filter_le _ _) (by simp)
theorem fbA_pre (xs : List S_api_Addr) (i : Nat) (hi : i ≤ xs.length) : ((xs.take i).flatMap cS_api_Addr).length = i * 17 := by
  rw [flat_len lenA, List.length_take, Nat.min_eq_left hi]
theorem fbA_split (xs : List S_api_Addr) (i : Nat) (hi : i < xs.length) : xs.flatMap cS_api_Addr = (xs.take i).flatMap cS_api_Addr ++ (cS_api_Addr (xs.getD i zA) ++ (xs.drop (i + 1)).flatMap cS_api_Addr) := by
  conv => lhs; rw [← List.take_append_drop i xs, List.drop_eq_getElem_cons hi]
  rw [List.flatMap_append, List.flatMap_cons, List.getD_eq_getElem?_getD, List.getElem?_eq_getElem hi]; rfl
theorem fbA_elem {w : World} {g : Nat} {xs : List S_api_Addr} {tail : List Value} (h : Box w g (xs.flatMap cS_api_Addr ++ tail)) (i o : Nat) (hi : i < xs.length) (ho : o = i * 17) :
    ∀ j v, (cS_api_Addr (xs.getD i zA))[j]? = some v → w.cell? (Addr.add ⟨g, o, none⟩ j) = some v := by
  have := cells_sub (Box.cells h) ((xs.take i).flatMap cS_api_Addr) ((xs.drop (i + 1)).flatMap cS_api_Addr ++ tail) (sub := cS_api_Addr (xs.getD i zA)) (by rw [fbA_split xs i hi]; simp only [List.append_assoc])
  rw [fbA_pre xs i (by omega), Nat.zero_add, ← ho] at this
  exact this
theorem fbA_set (xs : List S_api_Addr) (tail : List Value) (i : Nat) (v : S_api_Addr) (hi : i < xs.length) :
    (xs.flatMap cS_api_Addr ++ tail).take (i * 17) ++ cS_api_Addr v ++ (xs.flatMap cS_api_Addr ++ tail).drop (i * 17 + (cS_api_Addr v).length) = (xs.set i v).flatMap cS_api_Addr ++ tail := by
  have hp := fbA_pre xs i (by omega)
  have e : xs.flatMap cS_api_Addr ++ tail = (xs.take i).flatMap cS_api_Addr ++ (cS_api_Addr (xs.getD i zA) ++ ((xs.drop (i + 1)).flatMap cS_api_Addr ++ tail)) := by
    rw [fbA_split xs i hi]; simp only [List.append_assoc]
  have e2 : (xs.set i v).flatMap cS_api_Addr = (xs.take i).flatMap cS_api_Addr ++ (cS_api_Addr v ++ (xs.drop (i + 1)).flatMap cS_api_Addr) := by
    rw [List.set_eq_take_append_cons_drop, if_pos hi, List.flatMap_append, List.flatMap_cons]
  have hd : ∀ (P Q R : List Value), Q.length = 17 → (P ++ (Q ++ R)).drop (P.length + 17) = R := fun P Q R h => by rw [← List.append_assoc, List.drop_left' (by simp [h])]
  rw [e, e2, lenA, ← hp, List.take_left, hd _ _ _ (lenA _)]
  simp only [List.append_assoc]
theorem fbA_rsl {w : World} {g cap : Nat} {xs : List S_api_Addr} {tail : List Value} (h : Box w g (xs.flatMap cS_api_Addr ++ tail)) (h1 : xs.length ≤ cap) (h2 : cap ≤ maxLen) (M : List Nat) (hg : g ∉ M) (T : TypeId) : RSl rS_api_Addr T w M (some ⟨g, 0, none⟩) cap xs := by
  obtain ⟨T', hb⟩ := h
  refine ⟨h1, h2, .inr ⟨g, 0, _, (T', (0, 0)), rfl, hg, hb, ?_⟩⟩
  rw [RL.flat fA, List.toList_toArray, List.drop_zero, show rS_api_Addr.sz = 17 from rfl, ← flat_len lenA xs, List.take_left]
theorem fbA_own {w : World} {M : List Nat} {T : TypeId} {g cap : Nat} {xs : List S_api_Addr} (h : Own rS_api_Addr T w M (some ⟨g, 0, none⟩) cap xs) : (∃ tail, BoxT T w g (xs.flatMap cS_api_Addr ++ tail) ∧ (xs.flatMap cS_api_Addr ++ tail).length = cap * 17) ∧ xs.length ≤ cap ∧ cap ≤ maxLen := by
  rcases h with ⟨e, _⟩ | ⟨g', cur, e, hg, hb, h1, h2, h3, hl⟩
  · cases e
  · cases e
    have := (RL.flat fA).1 hl
    refine ⟨⟨cur.toList.drop (xs.length * 17), ?_, ?_⟩, h2, h3⟩
    · rw [← this, show rS_api_Addr.sz = 17 from rfl, List.take_append_drop]
      show w.heap[g]? = _
      simpa using hb
    · rw [← this, show rS_api_Addr.sz = 17 from rfl, List.take_append_drop]
      have h1 : cur.size = cap * 17 := h1
      simpa using h1
theorem own_fbA {w : World} {M : List Nat} {T : TypeId} {g cap : Nat} {xs : List S_api_Addr} {tail : List Value} (h : BoxT T w g (xs.flatMap cS_api_Addr ++ tail)) (hl : (xs.flatMap cS_api_Addr ++ tail).length = cap * 17) (h1 : xs.length ≤ cap) (h2 : cap ≤ maxLen) (hM : g ∈ M) : Own rS_api_Addr T w M (some ⟨g, 0, none⟩) cap xs := by
  refine .inr ⟨g, _, rfl, hM, h, by rw [List.size_toArray]; exact hl, h1, h2, ?_⟩
  rw [RL.flat fA, List.toList_toArray, show rS_api_Addr.sz = 17 from rfl, ← flat_len lenA xs, List.take_left]
theorem getD_of_dropA {xs cur : List S_api_Addr} {m r : Nat} (h : cur.drop m = xs.drop m) (hr : m ≤ r) : cur.getD r zA = xs.getD r zA := by
  have e := congrArg (fun l : List S_api_Addr => l[r - m]?) h
  simp only [List.getElem?_drop] at e
  rw [show m + (r - m) = r by omega] at e
  rw [List.getD_eq_getElem?_getD, List.getD_eq_getElem?_getD, e]
set_option maxRecDepth 100000 in
theorem compactA_walk (w : World) (g cap : Nat) (xs : List S_api_Addr) (tail : List Value) (hB : BoxT 25 w g (xs.flatMap cS_api_Addr ++ tail)) (hn : xs.length ≤ cap) (hc : cap ≤ maxLen) :
    To Tryz.prog 48 [.slice (some ⟨g, 0, none⟩) xs.length cap] w fun v w' => ∃ tail', v = .slice (some ⟨g, 0, none⟩) (ddA xs xs.length).length cap ∧ BoxT 25 w' g ((ddA xs xs.length).flatMap cS_api_Addr ++ tail') ∧ ((ddA xs xs.length).flatMap cS_api_Addr ++ tail').length = (xs.flatMap cS_api_Addr ++ tail).length ∧ Chg [g] w w' := by
  have hmax : maxLen = 9223372036854775807 := rfl
  refine ent Tryz.func48 rfl [(0, .slice (some ⟨g, 0, none⟩) xs.length cap)] rfl (by rfl) fun a ha => ?_
  refine wp_seq_k fun K hK => ?_
  refine wp_region_lit ?_
  refine seg ha 1 [(0, .slice (some ⟨g, 0, none⟩) xs.length cap)] (by kernel_rfl) fun a ha => ?_
  refine hK _ _ ?_; clear hK K
  refine wp_seq_k fun K hK => ?_
  refine wp_seq_k fun K2 hK2 => ?_
  refine wp_region_lit ?_
  refine seg ha 3 [(0, .slice (some ⟨g, 0, none⟩) xs.length cap), (8, .bool (decide ((xs.length : Int) < 2)))] (by kernel_rfl) fun a ha => ?_
  refine hK2 _ _ ?_; clear hK2 K2
  refine cnd ha rfl (fun h2 => ?_) (fun h2 => ?_)
  · have h2 : xs.length < 2 := by have := of_decide_eq_true h2; omega
    have e : ddA xs xs.length = xs := by
      rw [ddA_all xs xs.length (Nat.le_refl _) (fun i hi => by
      have hi0 : i = 0 := by omega
      rw [hi0]; rfl), List.take_length]
    refine wp_seq_k fun K2 hK2 => ?_
    refine wp_region_lit ?_
    refine seg ha 2 [(2, .slice (some ⟨g, 0, none⟩) xs.length cap)] (by kernel_rfl) fun a ha => ?_
    refine hK2 _ _ ?_; clear hK2 K2
    refine wp_ret ?_
    simp only [Exit.then, Exit.inBlock]
    refine rt1 ha rfl rfl ⟨tail, by rw [e], by rw [e]; exact hB, by rw [e], Chg.refl _ _⟩
  have h2 : 2 ≤ xs.length := by have := of_decide_eq_false h2; omega
  refine wp_skip ?_
  refine hK _ _ ?_; clear hK K
  refine wp_seq_k fun K hK => ?_
  refine wp_seq_k fun K2 hK2 => ?_
  refine wp_region_lit ?_
  refine seg ha 1 [(0, .slice (some ⟨g, 0, none⟩) xs.length cap), (3, .int .i64 ((1 : Nat) : Int))] (by kernel_rfl) fun a ha => ?_
  refine hK2 _ _ ?_; clear hK2 K2
  refine wp_block ?_
  have J : ∀ (a : Act) (w1 : World), Has a Tryz.f48.ntmps [(0, .slice (some ⟨g, 0, none⟩) xs.length cap)] → (∀ i, i < xs.length → keepA xs i = true) → BoxT 25 w1 g (xs.flatMap cS_api_Addr ++ tail) → Chg [g] w w1 → K a w1 := by
    intro a w1 ha hk hB hC
    refine hK _ _ ?_; clear hK K
    have e : ddA xs xs.length = xs := by rw [ddA_all xs xs.length (Nat.le_refl _) hk, List.take_length]
    refine wp_seq_k fun K hK => ?_
    refine wp_region_lit ?_
    refine seg ha 2 [(2, .slice (some ⟨g, 0, none⟩) xs.length cap)] (by kernel_rfl) fun a ha => ?_
    refine hK _ _ ?_; clear hK K
    refine wp_ret ?_
    refine rt1 ha rfl rfl ⟨tail, by rw [e], by rw [e]; exact hB, by rw [e], hC⟩
  refine wp_loop_ghost (fun kk a w1 => ∃ k : Nat, kk = xs.length - k ∧ 1 ≤ k ∧ k ≤ xs.length ∧ (∀ i, i < k → keepA xs i = true) ∧ Has a Tryz.f48.ntmps [(0, .slice (some ⟨g, 0, none⟩) xs.length cap), (3, .int .i64 (k : Int))] ∧ BoxT 25 w1 g (xs.flatMap cS_api_Addr ++ tail) ∧ Chg [g] w w1) (xs.length - 1) ?_ ?_
  · exact ⟨1, rfl, Nat.le_refl _, by omega, fun i hi => by
      have hi0 : i = 0 := by omega
      rw [hi0]; rfl, ha.sel (by kernel_rfl), hB, Chg.refl _ _⟩
  rintro kk a w1 ⟨k, rfl, k1, kn, hkeep, ha, hB, hC⟩
  refine wp_seq_k fun KA hKA => ?_
  refine wp_seq_k fun K2 hK2 => ?_
  refine wp_region_lit ?_
  refine seg ha 4 [(0, .slice (some ⟨g, 0, none⟩) xs.length cap), (3, .int .i64 (k : Int)), (13, .bool (decide ((k : Int) < (xs.length : Int))))] (by kernel_rfl) fun a ha => ?_
  refine hK2 _ _ ?_; clear hK2 K2
  refine cnd ha rfl (fun h3 => ?_) (fun h3 => ?_)
  rotate_left
  · refine wp_exit ?_
    simp only [Exit.then, Exit.inBlock, ↓reduceIte, Nat.reduceEqDiff]
    have h3 : ¬ (k : Int) < xs.length := of_decide_eq_false h3
    exact J _ _ (ha.sel (by kernel_rfl)) (fun i hi => hkeep i (by omega)) hB hC
  have h3 : (k : Int) < xs.length := of_decide_eq_true h3
  have k3 : k < xs.length := by omega
  refine wp_skip ?_
  refine hKA _ _ ?_; clear hKA KA
  refine wp_seq_k fun KB hKB => ?_
  refine wp_block ?_
  refine wp_seq_k fun K2 hK2 => ?_
  have e22 : IntKind.i64.wrap ((k : Int) - 1) = ((k - 1 : Nat) : Int) := by rw [IntKind.wrap_i64]; omega
  refine drq0 (fun w' => Chg [] w1 w') (by kernel_rfl) (by kernel_rfl) (fun _ h => h) ?_
  refine qp 0 (.slice (some ⟨g, 0, none⟩) xs.length cap) ha rfl rfl rfl (by kernel_rfl) fun a ha => ?_
  refine qp 0 (.int .i64 (k : Int)) ha rfl rfl rfl (by kernel_rfl) fun a ha => ?_
  refine qv (v := .pointer (some ⟨g, 0 + Int.toNat (k : Int) * rS_api_Addr.sz, none⟩)) ha rfl rfl rfl (fun w' hs => ix_run (r := rS_api_Addr) (T := 25) (xs := xs) (k := .i64) (i := (k : Int)) ha (by kernel_rfl) (by kernel_rfl) (by rfl) (by rfl) rfl (by omega) h3) fun a ha => ?_
  refine qv (v := .agg (cS_api_Addr (xs.getD k zA)).toArray) ha rfl rfl rfl (fun w' hs => ldA_run (cs := cS_api_Addr (xs.getD k zA)) ha rfl (by kernel_rfl) (fbA_elem (hB.chg hs (fun h => nomatch h)).box k _ k3 (by show 0 + Int.toNat (k : Int) * 17 = k * 17; simp))) fun a ha => ?_
  refine qp 0 (.slice (some ⟨g, 0, none⟩) xs.length cap) ha rfl rfl rfl (by kernel_rfl) fun a ha => ?_
  refine qp 0 (.int .i64 (k : Int)) ha rfl rfl rfl (by kernel_rfl) fun a ha => ?_
  refine qp 0 (.int .i64 (IntKind.i64.wrap ((k : Int) - 1))) ha rfl rfl rfl (by kernel_rfl) fun a ha => ?_
  rw [e22] at ha
  refine qv (v := .pointer (some ⟨g, 0 + Int.toNat ((k - 1 : Nat) : Int) * rS_api_Addr.sz, none⟩)) ha rfl rfl rfl (fun w' hs => ix_run (r := rS_api_Addr) (T := 25) (xs := xs) (k := .i64) (i := ((k - 1 : Nat) : Int)) ha (by kernel_rfl) (by kernel_rfl) (by rfl) (by rfl) rfl (by omega) (by omega)) fun a ha => ?_
  refine qv (v := .agg (cS_api_Addr (xs.getD (k - 1) zA)).toArray) ha rfl rfl rfl (fun w' hs => ldA_run (cs := cS_api_Addr (xs.getD (k - 1) zA)) ha rfl (by kernel_rfl) (fbA_elem (hB.chg hs (fun h => nomatch h)).box (k - 1) _ (by omega) (by show 0 + Int.toNat ((k - 1 : Nat) : Int) * 17 = (k - 1) * 17; simp))) fun a ha => ?_
  refine qv (v := .bool (eqAd (xs.getD k zA) (xs.getD (k - 1) zA))) ha rfl rfl rfl (fun w' hs => eqs_run (r := eqAd (xs.getD k zA) (xs.getD (k - 1) zA)) (m := 9) ha rfl rfl (by kernel_rfl) rfl (by kernel_rfl) w') fun a ha => ?_
  refine wpQuiet_nil ?_
  intro w2 hs
  have hB := hB.chg hs (fun h => nomatch h)
  have hC := hC.trans hs (Ok.nil _ _)
  refine wpl_end ?_
  have ha := ha.sel (env' := [(0, .slice (some ⟨g, 0, none⟩) xs.length cap), (3, .int .i64 (k : Int)), (25, .bool (eqAd (xs.getD k zA) (xs.getD (k - 1) zA)))]) (by kernel_rfl)
  refine hK2 _ _ ?_; clear hK2 K2
  have hkk : keepA xs k = !eqAd (xs.getD k zA) (xs.getD (k - 1) zA) := by
    unfold keepA
    have : (k == 0) = false := by simp; omega
    rw [this]; rfl
  refine cnd ha rfl (fun h4 => ?_) (fun h4 => ?_)
  rotate_left
  · refine wp_skip ?_
    refine hKB _ _ ?_; clear hKB KB
    refine wp_region_lit ?_
    refine seg ha 3 [(0, .slice (some ⟨g, 0, none⟩) xs.length cap), (3, .int .i64 (IntKind.i64.wrap ((k : Int) + 1)))] (by kernel_rfl) fun a ha => ?_
    have e : IntKind.i64.wrap ((k : Int) + 1) = ((k + 1 : Nat) : Int) := by rw [IntKind.wrap_i64]; omega
    rw [e] at ha
    exact ⟨xs.length - (k + 1), by omega, k + 1, rfl, by omega, by omega, fun i hi => by
      by_cases hik : i = k
      · subst hik; rw [hkk, h4]; rfl
      · exact hkeep i (by omega), ha.sel (by kernel_rfl), hB, hC⟩
  have hkf : keepA xs k = false := by rw [hkk, h4]; rfl
  refine wp_seq_k fun K2 hK2 => ?_
  refine wp_region_lit ?_
  refine seg ha 2 [(0, .slice (some ⟨g, 0, none⟩) xs.length cap), (3, .int .i64 (k : Int)), (26, .slice (some ⟨g, 0, none⟩) xs.length cap), (27, .int .i64 (k : Int))] (by kernel_rfl) fun a ha => ?_
  have hR : RSl rS_api_Addr 25 w2 [] (some ⟨g, 0, none⟩) cap xs := fbA_rsl hB.box hn hc [] (fun h => nomatch h) 25
  refine hop (w' := w2) ha rfl rfl rfl (slcE_run (r := rS_api_Addr) (T := 25) (xs := xs) (l := (k : Int)) (h := (xs.length : Int)) ha (by kernel_rfl) (by kernel_rfl) rfl rfl rfl hR (by omega) (by omega) (by omega) w2) fun a ha => ?_
  have eS : (Value.slice (if cap = (k : Int).toNat then some ⟨g, 0, none⟩ else (some (⟨g, 0, none⟩ : Addr)).map (·.add ((k : Int).toNat * rS_api_Addr.sz))) ((xs.take (xs.length : Int).toNat).drop (k : Int).toNat).length (cap - (k : Int).toNat)) = .slice (some ⟨g, k * 17, none⟩) (xs.drop k).length (cap - k) := by
    rw [Int.toNat_natCast, Int.toNat_natCast, if_neg (by omega), List.take_length, Option.map_some, Addr.add_lit, Nat.zero_add]; rfl
  rw [eS] at ha
  refine seg ha 1 [(0, .slice (some ⟨g, 0, none⟩) xs.length cap), (3, .int .i64 (k : Int)), (4, .slice (some ⟨g, k * 17, none⟩) (xs.drop k).length (cap - k))] (by kernel_rfl) fun a ha => ?_
  refine hK2 _ _ ?_; clear hK2 K2
  have hdl : (xs.drop k).length = xs.length - k := List.length_drop
  refine wp_seq_k fun KC hKC => ?_
  refine wp_seq_k fun K2 hK2 => ?_
  refine wp_region_lit ?_
  refine seg ha 1 [(0, .slice (some ⟨g, 0, none⟩) xs.length cap), (3, .int .i64 (k : Int)), (4, .slice (some ⟨g, k * 17, none⟩) (xs.drop k).length (cap - k)), (5, .int .i64 ((1 : Nat) : Int))] (by kernel_rfl) fun a ha => ?_
  refine hK2 _ _ ?_; clear hK2 K2
  refine wp_block ?_
  have JC : ∀ (a : Act) (w3 : World) (m : Nat) (cur : List S_api_Addr), Has a Tryz.f48.ntmps [(0, .slice (some ⟨g, 0, none⟩) xs.length cap), (3, .int .i64 (m : Int))] → m < xs.length → cur.length = xs.length → cur.take m = ddA xs xs.length → BoxT 25 w3 g (cur.flatMap cS_api_Addr ++ tail) → Chg [g] w w3 → KC a w3 := by
    intro a w3 m cur ha hm hcl htk hB hC
    refine hKC _ _ ?_; clear hKC KC
    refine wp_seq_k fun K2 hK2 => ?_
    refine wp_region_lit ?_
    refine seg ha 2 [(0, .slice (some ⟨g, 0, none⟩) xs.length cap), (3, .int .i64 (m : Int)), (54, .slice (some ⟨g, 0, none⟩) xs.length cap), (55, .int .i64 (m : Int))] (by kernel_rfl) fun a ha => ?_
    have hR : RSl rS_api_Addr 25 w3 [] (some ⟨g, 0, none⟩) cap cur := fbA_rsl hB.box (by omega) hc [] (fun h => nomatch h) 25
    have ha : Has a Tryz.f48.ntmps [(0, .slice (some ⟨g, 0, none⟩) cur.length cap), (3, .int .i64 (m : Int)), (54, .slice (some ⟨g, 0, none⟩) cur.length cap), (55, .int .i64 (m : Int))] := by rw [hcl]; exact ha.sel (by kernel_rfl)
    refine hop (w' := w3) ha rfl rfl rfl (slcE_run (r := rS_api_Addr) (T := 25) (xs := cur) (l := (m : Int)) (h := (cur.length : Int)) ha (by kernel_rfl) (by kernel_rfl) rfl rfl rfl hR (by omega) (by omega) (by omega) w3) fun a ha => ?_
    have eS : (Value.slice (if cap = (m : Int).toNat then some ⟨g, 0, none⟩ else (some (⟨g, 0, none⟩ : Addr)).map (·.add ((m : Int).toNat * rS_api_Addr.sz))) ((cur.take (cur.length : Int).toNat).drop (m : Int).toNat).length (cap - (m : Int).toNat)) = .slice (some ⟨g, m * 17, none⟩) (cur.drop m).length (cap - m) := by
      rw [Int.toNat_natCast, Int.toNat_natCast, if_neg (by omega), List.take_length, Option.map_some, Addr.add_lit, Nat.zero_add]; rfl
    rw [eS] at ha
    refine clr (e := 25) (s := 17) (z := .agg (cS_api_Addr zA).toArray) ha (by kernel_rfl) rfl (fun w => by kernel_rfl) (by show (cS_api_Addr zA).toArray.size = 17; simp [lenA]) (zone (cS_api_Addr zA).toArray (by simp [lenA]) (fun v hv => oneA w zA v (by simpa using hv)) _) rfl hB ?_ fun a w4 cs' ha hB4 htk4 hl4 hc4 => ?_
    · rw [zlen, show (Value.agg (cS_api_Addr zA).toArray).cells.size = 17 from by show (cS_api_Addr zA).toArray.size = 17; simp [lenA], List.length_append, flat_len lenA, List.length_drop]; omega
    have hC := hC.trans hc4 (Ok.refl _ _)
    refine wpl_end ?_
    have ha : Has a Tryz.f48.ntmps [(0, .slice (some ⟨g, 0, none⟩) cur.length cap), (3, .int .i64 (m : Int))] := ha.sel (by kernel_rfl)
    refine hK2 _ _ ?_; clear hK2 K2
    refine wp_seq_k fun K2 hK2 => ?_
    refine wp_region_lit ?_
    refine seg ha 2 [(57, .slice (some ⟨g, 0, none⟩) cur.length cap), (58, .int .i64 (m : Int))] (by kernel_rfl) fun a ha => ?_
    have em : (cur.take m).length = m := by rw [List.length_take]; omega
    have hB5 : BoxT 25 w4 g ((cur.take m).flatMap cS_api_Addr ++ cs'.drop (m * 17)) := by
      have e1 : cs'.take (m * 17) = (cur.take m).flatMap cS_api_Addr := by
        have e2 : cur.flatMap cS_api_Addr = (cur.take m).flatMap cS_api_Addr ++ (cur.drop m).flatMap cS_api_Addr := by rw [← List.flatMap_append, List.take_append_drop]
        rw [htk4, List.take_append_of_le_length (by rw [flat_len lenA]; omega), ← fbA_pre cur m (by omega), e2, List.take_left]
      rw [← e1, List.take_append_drop]; exact hB4
    have hR : RSl rS_api_Addr 25 w3 [] (some ⟨g, 0, none⟩) cap cur := hR
    refine hop (w' := w4) ha rfl rfl rfl (slcE_run (r := rS_api_Addr) (T := 25) (xs := cur) (l := 0) (h := (m : Int)) ha (by kernel_rfl) (by kernel_rfl) rfl rfl rfl hR (by omega) (by omega) (by omega) w4) fun a ha => ?_
    have eS : (Value.slice (if cap = (0 : Int).toNat then some ⟨g, 0, none⟩ else (some (⟨g, 0, none⟩ : Addr)).map (·.add ((0 : Int).toNat * rS_api_Addr.sz))) ((cur.take (m : Int).toNat).drop (0 : Int).toNat).length (cap - (0 : Int).toNat)) = .slice (some ⟨g, 0, none⟩) (cur.take m).length cap := by
      rw [Int.toNat_natCast]
      show Value.slice (if cap = 0 then some ⟨g, 0, none⟩ else some (Addr.add ⟨g, 0, none⟩ (0 * 17))) (cur.take m).length cap = _
      split <;> rfl
    rw [eS] at ha
    refine seg ha 1 [(2, .slice (some ⟨g, 0, none⟩) (cur.take m).length cap)] (by kernel_rfl) fun a ha => ?_
    refine hK2 _ _ ?_; clear hK2 K2
    refine wp_ret ?_
    simp only [Exit.then, Exit.inBlock]
    refine rt1 ha rfl rfl ⟨cs'.drop (m * 17), by rw [← htk], by rw [← htk]; exact hB5, ?_, hC⟩
    rw [← htk, List.length_append, flat_len lenA, List.length_drop, hl4, em, List.length_append, flat_len lenA, List.length_append, flat_len lenA, hcl]
    omega
  refine wp_loop_ghost (fun kk a w3 => ∃ (m k2 : Nat) (cur : List S_api_Addr), kk = xs.length - (k + k2) ∧ 1 ≤ k2 ∧ k + k2 ≤ xs.length ∧ m + 1 ≤ k + k2 ∧ cur.length = xs.length ∧ cur.take m = ddA xs (k + k2) ∧ cur.drop m = xs.drop m ∧ Has a Tryz.f48.ntmps [(0, .slice (some ⟨g, 0, none⟩) xs.length cap), (3, .int .i64 (m : Int)), (4, .slice (some ⟨g, k * 17, none⟩) (xs.drop k).length (cap - k)), (5, .int .i64 (k2 : Int))] ∧ BoxT 25 w3 g (cur.flatMap cS_api_Addr ++ tail) ∧ Chg [g] w w3) (xs.length - (k + 1)) ?_ ?_
  · refine ⟨k, 1, xs, rfl, Nat.le_refl _, by omega, Nat.le_refl _, rfl, ?_, rfl, ha.sel (by kernel_rfl), hB, hC⟩
    rw [ddA_succ, if_neg (by rw [hkf]; decide), List.append_nil, ddA_all xs k (by omega) hkeep]
  rintro kk2 a w3 ⟨m, k2, cur, rfl, k21, hkn, hmk, hcl, htk, hdp, ha, hB, hC⟩
  refine wp_seq_k fun KD hKD => ?_
  refine wp_seq_k fun K2 hK2 => ?_
  refine wp_region_lit ?_
  refine seg ha 4 [(0, .slice (some ⟨g, 0, none⟩) xs.length cap), (3, .int .i64 (m : Int)), (4, .slice (some ⟨g, k * 17, none⟩) (xs.drop k).length (cap - k)), (5, .int .i64 (k2 : Int)), (32, .bool (decide ((k2 : Int) < ((xs.drop k).length : Int))))] (by kernel_rfl) fun a ha => ?_
  refine hK2 _ _ ?_; clear hK2 K2
  refine cnd ha rfl (fun h5 => ?_) (fun h5 => ?_)
  rotate_left
  · refine wp_exit ?_
    simp only [Exit.then, Exit.inBlock, ↓reduceIte, Nat.reduceEqDiff]
    have h5 : ¬ (k2 : Int) < ((xs.drop k).length : Int) := of_decide_eq_false h5
    have ekn : k + k2 = xs.length := by omega
    rw [ekn] at htk
    exact JC _ _ m cur (ha.sel (by kernel_rfl)) (by omega) hcl htk hB hC
  have h5 : (k2 : Int) < ((xs.drop k).length : Int) := of_decide_eq_true h5
  have r5 : k + k2 < xs.length := by omega
  refine wp_skip ?_
  refine hKD _ _ ?_; clear hKD KD
  refine wp_seq_k fun KE hKE => ?_
  have JE : ∀ (a : Act) (w5 : World) (m' : Nat) (cur' : List S_api_Addr), Has a Tryz.f48.ntmps [(0, .slice (some ⟨g, 0, none⟩) xs.length cap), (3, .int .i64 (m' : Int)), (4, .slice (some ⟨g, k * 17, none⟩) (xs.drop k).length (cap - k)), (5, .int .i64 (k2 : Int))] → m' ≤ k + k2 → cur'.length = xs.length → cur'.take m' = ddA xs (k + k2 + 1) → cur'.drop m' = xs.drop m' → BoxT 25 w5 g (cur'.flatMap cS_api_Addr ++ tail) → Chg [g] w w5 → KE a w5 := by
    intro a w5 m' cur' ha hm' hcl' htk' hdp' hB hC
    refine hKE _ _ ?_; clear hKE KE
    refine wp_region_lit ?_
    refine seg ha 3 [(0, .slice (some ⟨g, 0, none⟩) xs.length cap), (3, .int .i64 (m' : Int)), (4, .slice (some ⟨g, k * 17, none⟩) (xs.drop k).length (cap - k)), (5, .int .i64 (IntKind.i64.wrap ((k2 : Int) + 1)))] (by kernel_rfl) fun a ha => ?_
    have e : IntKind.i64.wrap ((k2 : Int) + 1) = ((k2 + 1 : Nat) : Int) := by rw [IntKind.wrap_i64]; omega
    rw [e] at ha
    exact ⟨xs.length - (k + (k2 + 1)), by omega, m', k2 + 1, cur', rfl, by omega, by omega, by omega, hcl', htk', hdp', ha.sel (by kernel_rfl), hB, hC⟩
  refine wp_block ?_
  refine wp_seq_k fun K2 hK2 => ?_
  have e41 : IntKind.i64.wrap ((k2 : Int) - 1) = ((k2 - 1 : Nat) : Int) := by rw [IntKind.wrap_i64]; omega
  have g1 : cur.getD (k + k2) zA = xs.getD (k + k2) zA := getD_of_dropA hdp (by omega)
  have g2 : cur.getD (k + (k2 - 1)) zA = xs.getD (k + k2 - 1) zA := by rw [show k + (k2 - 1) = k + k2 - 1 by omega]; exact getD_of_dropA hdp (by omega)
  refine drq0 (fun w' => Chg [] w3 w') (by kernel_rfl) (by kernel_rfl) (fun _ h => h) ?_
  refine qp 0 (.slice (some ⟨g, k * 17, none⟩) (xs.drop k).length (cap - k)) ha rfl rfl rfl (by kernel_rfl) fun a ha => ?_
  refine qp 0 (.int .i64 (k2 : Int)) ha rfl rfl rfl (by kernel_rfl) fun a ha => ?_
  refine qv (v := .pointer (some ⟨g, k * 17 + Int.toNat (k2 : Int) * rS_api_Addr.sz, none⟩)) ha rfl rfl rfl (fun w' hs => ix_run (r := rS_api_Addr) (T := 25) (xs := xs.drop k) (k := .i64) (i := (k2 : Int)) ha (by kernel_rfl) (by kernel_rfl) (by rfl) (by rfl) rfl (by omega) h5) fun a ha => ?_
  refine qv (v := .agg (cS_api_Addr (cur.getD (k + k2) zA)).toArray) ha rfl rfl rfl (fun w' hs => ldA_run (cs := cS_api_Addr (cur.getD (k + k2) zA)) ha rfl (by kernel_rfl) (fbA_elem (hB.chg hs (fun h => nomatch h)).box (k + k2) _ (by omega) (by show k * 17 + Int.toNat (k2 : Int) * 17 = (k + k2) * 17; rw [Int.toNat_natCast]; omega))) fun a ha => ?_
  refine qp 0 (.slice (some ⟨g, k * 17, none⟩) (xs.drop k).length (cap - k)) ha rfl rfl rfl (by kernel_rfl) fun a ha => ?_
  refine qp 0 (.int .i64 (k2 : Int)) ha rfl rfl rfl (by kernel_rfl) fun a ha => ?_
  refine qp 0 (.int .i64 (IntKind.i64.wrap ((k2 : Int) - 1))) ha rfl rfl rfl (by kernel_rfl) fun a ha => ?_
  rw [e41] at ha
  refine qv (v := .pointer (some ⟨g, k * 17 + Int.toNat ((k2 - 1 : Nat) : Int) * rS_api_Addr.sz, none⟩)) ha rfl rfl rfl (fun w' hs => ix_run (r := rS_api_Addr) (T := 25) (xs := xs.drop k) (k := .i64) (i := ((k2 - 1 : Nat) : Int)) ha (by kernel_rfl) (by kernel_rfl) (by rfl) (by rfl) rfl (by omega) (by omega)) fun a ha => ?_
  refine qv (v := .agg (cS_api_Addr (cur.getD (k + (k2 - 1)) zA)).toArray) ha rfl rfl rfl (fun w' hs => ldA_run (cs := cS_api_Addr (cur.getD (k + (k2 - 1)) zA)) ha rfl (by kernel_rfl) (fbA_elem (hB.chg hs (fun h => nomatch h)).box (k + (k2 - 1)) _ (by omega) (by show k * 17 + Int.toNat ((k2 - 1 : Nat) : Int) * 17 = (k + (k2 - 1)) * 17; rw [Int.toNat_natCast]; omega))) fun a ha => ?_
  refine qv (v := .bool (!eqAd (cur.getD (k + k2) zA) (cur.getD (k + (k2 - 1)) zA))) ha rfl rfl rfl (fun w' hs => nes_run (r := eqAd (cur.getD (k + k2) zA) (cur.getD (k + (k2 - 1)) zA)) (m := 9) ha rfl rfl (by kernel_rfl) rfl (by kernel_rfl) w') fun a ha => ?_
  refine wpQuiet_nil ?_
  intro w4 hs
  have hB := hB.chg hs (fun h => nomatch h)
  have hC := hC.trans hs (Ok.nil _ _)
  refine wpl_end ?_
  have ha := ha.sel (env' := [(0, .slice (some ⟨g, 0, none⟩) xs.length cap), (3, .int .i64 (m : Int)), (4, .slice (some ⟨g, k * 17, none⟩) (xs.drop k).length (cap - k)), (5, .int .i64 (k2 : Int)), (44, .bool (!eqAd (cur.getD (k + k2) zA) (cur.getD (k + (k2 - 1)) zA)))]) (by kernel_rfl)
  refine hK2 _ _ ?_; clear hK2 K2
  have hkr : keepA xs (k + k2) = !eqAd (cur.getD (k + k2) zA) (cur.getD (k + (k2 - 1)) zA) := by
    rw [g1, g2]
    unfold keepA
    have : ((k + k2) == 0) = false := by simp; omega
    rw [this]; rfl
  refine cnd ha rfl (fun h6 => ?_) (fun h6 => ?_)
  rotate_left
  · refine wp_skip ?_
    refine JE _ _ m cur (ha.sel (by kernel_rfl)) (by omega) hcl ?_ hdp hB hC
    rw [ddA_succ, if_neg (by rw [hkr, h6]; decide), List.append_nil]; exact htk
  refine wp_seq_k fun K2 hK2 => ?_
  refine wp_region_lit ?_
  refine seg ha 4 [(0, .slice (some ⟨g, 0, none⟩) xs.length cap), (3, .int .i64 (m : Int)), (4, .slice (some ⟨g, k * 17, none⟩) (xs.drop k).length (cap - k)), (5, .int .i64 (k2 : Int)), (45, .slice (some ⟨g, 0, none⟩) xs.length cap), (46, .int .i64 (m : Int)), (47, .slice (some ⟨g, k * 17, none⟩) (xs.drop k).length (cap - k)), (48, .int .i64 (k2 : Int))] (by kernel_rfl) fun a ha => ?_
  refine hop (w' := w4) ha rfl rfl rfl (ix_run (r := rS_api_Addr) (T := 25) (xs := xs.drop k) (k := .i64) (i := (k2 : Int)) ha (by kernel_rfl) (by kernel_rfl) (by rfl) (by rfl) rfl (by omega) h5) fun a ha => ?_
  refine ldA (cs := cS_api_Addr (cur.getD (k + k2) zA)) ha rfl (by kernel_rfl) rfl rfl rfl (fbA_elem hB.box (k + k2) _ (by omega) (by show k * 17 + Int.toNat (k2 : Int) * 17 = (k + k2) * 17; rw [Int.toNat_natCast]; omega)) fun a ha => ?_
  refine hop (w' := w4) ha rfl rfl rfl (ix_run (r := rS_api_Addr) (T := 25) (xs := xs) (k := .i64) (i := (m : Int)) ha (by kernel_rfl) (by kernel_rfl) (by rfl) (by rfl) rfl (by omega) (by omega)) fun a ha => ?_
  have eo : (0 + Int.toNat (m : Int) * rS_api_Addr.sz) = m * 17 := by show 0 + Int.toNat (m : Int) * 17 = m * 17; rw [Int.toNat_natCast]; omega
  rw [eo] at ha
  refine stAT (l := cS_api_Addr (cur.getD (k + k2) zA)) (o' := m * 17) ha rfl rfl rfl (by kernel_rfl) rfl rfl hB (Nat.ble_eq_true_of_le ?_) fun a w5 ha hb5 hc5 _ => ?_
  · rw [lenA, List.length_append, flat_len lenA]; omega
  rw [fbA_set cur tail m _ (by omega)] at hb5
  have hC := hC.trans hc5 (Ok.refl _ _)
  refine wpl_end ?_
  have ha := ha.sel (env' := [(0, .slice (some ⟨g, 0, none⟩) xs.length cap), (3, .int .i64 (m : Int)), (4, .slice (some ⟨g, k * 17, none⟩) (xs.drop k).length (cap - k)), (5, .int .i64 (k2 : Int))]) (by kernel_rfl)
  refine hK2 _ _ ?_; clear hK2 K2
  refine wp_region_lit ?_
  refine seg ha 3 [(0, .slice (some ⟨g, 0, none⟩) xs.length cap), (3, .int .i64 (IntKind.i64.wrap ((m : Int) + 1))), (4, .slice (some ⟨g, k * 17, none⟩) (xs.drop k).length (cap - k)), (5, .int .i64 (k2 : Int))] (by kernel_rfl) fun a ha => ?_
  have em1 : IntKind.i64.wrap ((m : Int) + 1) = ((m + 1 : Nat) : Int) := by rw [IntKind.wrap_i64]; omega
  rw [em1] at ha
  refine JE _ _ (m + 1) (cur.set m (cur.getD (k + k2) zA)) (ha.sel (by kernel_rfl)) (by omega) (by rw [List.length_set]; exact hcl) ?_ ?_ hb5 hC
  · rw [ddA_succ, if_pos (by rw [hkr, h6]), ← htk, ← g1, List.take_add_one, List.take_set_of_le (Nat.le_refl _), List.getElem?_set_self (by omega)]; rfl
  · rw [List.drop_set_of_lt (by omega)]
    have e9 := congrArg (List.drop 1) hdp
    rwa [List.drop_drop, List.drop_drop] at e9
section
open Go.Sort
def okAb (x : S_api_Addr) : Bool := x.B.length == 16 && x.B.all (fun b => decide (0 ≤ b) && decide (b < 256))
abbrev AK := {x : S_api_Addr // okAb x = true}
instance : Inhabited AK := ⟨⟨⟨0, List.replicate 16 0⟩, rfl⟩⟩
def encK (x : AK) : List Value := cS_api_Addr x.1
def cfK (x y : AK) : Int := cmpA x.1 y.1
def byA (x : S_api_Addr) : List UInt8 := b2s (arL 16 x.B)
theorem cb_lt : ∀ (a b : List UInt8), Go.Lib.compareBytes a b < 0 ↔ a < b
  | [], [] => by simp [Go.Lib.compareBytes]
  | [], _ :: _ => by simp [Go.Lib.compareBytes]
  | _ :: _, [] => by simp [Go.Lib.compareBytes]
  | x :: xs, y :: ys => by
    rw [List.cons_lt_cons_iff]
    unfold Go.Lib.compareBytes
    by_cases h : x < y
    · simp [h]
    · rw [if_neg h]
      by_cases h' : y < x
      · rw [if_pos h']
        have : x ≠ y := fun e => by subst e; exact UInt8.lt_irrefl _ h'
        simp [h, this]
      · rw [if_neg h', cb_lt xs ys]
        have : x = y := UInt8.le_antisymm (UInt8.not_lt.1 h') (UInt8.not_lt.1 h)
        subst this
        simp [h]
theorem cmpA_lt (x y : S_api_Addr) : cmpA x y < 0 ↔ x.Size < y.Size ∨ (x.Size = y.Size ∧ byA x < byA y) := by
  unfold cmpA sgnI byA
  rcases Int.lt_trichotomy x.Size y.Size with h | h | h
  · simp [h]
  · simp [h, cb_lt]
  · have h1 : ¬ x.Size < y.Size := by omega
    have h2 : x.Size ≠ y.Size := by omega
    simp [h, h1, h2]
theorem sk_swo : SWO (ltOf cfK) where
  irrefl x := by
    simp only [ltOf, cfK, decide_eq_false_iff_not, cmpA_lt]
    rintro (h | ⟨_, h⟩)
    · omega
    · exact List.lt_irrefl _ h
  trans x y z h1 h2 := by
    simp only [ltOf, cfK, decide_eq_true_eq, cmpA_lt] at *
    rcases h1 with h1 | ⟨e1, h1⟩ <;> rcases h2 with h2 | ⟨e2, h2⟩
    · exact .inl (by omega)
    · exact .inl (by omega)
    · exact .inl (by omega)
    · exact .inr ⟨e1.trans e2, List.lt_trans h1 h2⟩
  ntrans x y z h1 h2 := by
    simp only [ltOf, cfK, decide_eq_false_iff_not, cmpA_lt, not_or, not_and, List.not_lt] at *
    obtain ⟨a1, b1⟩ := h1
    obtain ⟨a2, b2⟩ := h2
    refine ⟨by omega, fun e => List.le_trans (b2 (by omega)) (b1 (by omega))⟩
theorem byA_inj {x y : S_api_Addr} (hx : okAb x = true) (hy : okAb y = true) (h : byA x = byA y) : x.B = y.B := by
  simp only [okAb, Bool.and_eq_true, beq_iff_eq, List.all_eq_true, decide_eq_true_eq] at hx hy
  obtain ⟨lx, rx⟩ := hx
  obtain ⟨ly, ry⟩ := hy
  apply List.ext_getElem (by rw [lx, ly])
  intro i h1 h2
  have e := congrArg (fun l : List UInt8 => l[i]?) h
  have i8 : i < 16 := by omega
  have q1 : (byA x)[i]? = some (UInt8.ofNat (x.B[i]).toNat) := by simp [byA, b2s, arL, ar, i8, h1]
  have q2 : (byA y)[i]? = some (UInt8.ofNat (y.B[i]).toNat) := by simp [byA, b2s, arL, ar, i8, h2]
  simp only [q1, q2, Option.some.injEq] at e
  have r1 := rx _ (List.getElem_mem h1)
  have r2 := ry _ (List.getElem_mem h2)
  have e2 := congrArg UInt8.toNat e
  rw [UInt8.toNat_ofNat_of_lt' (by show _ < 256; omega), UInt8.toNat_ofNat_of_lt' (by show _ < 256; omega)] at e2
  omega
theorem sk_tot : ∀ x y : AK, (ltOf cfK) x y = false → (ltOf cfK) y x = false → x = y := by
  intro x y h1 h2
  simp only [ltOf, cfK, decide_eq_false_iff_not, cmpA_lt, not_or, not_and, List.not_lt] at h1 h2
  have es : x.1.Size = y.1.Size := by omega
  have eb := byA_inj x.2 y.2 (List.le_antisymm (h2.2 es.symm) (h1.2 es))
  apply Subtype.ext
  cases hx : x.1; cases hy : y.1
  rw [hx, hy] at es eb
  simp at es eb
  rw [es, eb]
def leA (x y : S_api_Addr) : Bool := !decide (cmpA y x < 0)
theorem flatK_valA (ys : List AK) : flatK encK 17 ys.toArray = flatK cS_api_Addr 17 (ys.map Subtype.val).toArray := by
  apply Array.ext'
  rw [flatK_list (enc := encK) (fun x => lenA x.1), flatK_list (enc := cS_api_Addr) lenA, List.flatMap_map]; rfl
theorem sort_addrs (w : World) (M : List Nat) (g cap : Nat) (xs : List S_api_Addr) (hx : xs.all okAb = true) (hl : xs.length < 4611686018427387904) (h : Own rS_api_Addr 25 w M (some ⟨g, 0, none⟩) cap xs) :
    To Tryz.prog 47 [.slice (some ⟨g, 0, none⟩) xs.length cap, .func (.func 33) #[] #[]] w fun v w' => v = .tuple #[] ∧ Own rS_api_Addr 25 w' M (some ⟨g, 0, none⟩) cap (xs.mergeSort leA) ∧ Chg [g] w w' := by
  have hx' : ∀ x ∈ xs, okAb x = true := List.all_eq_true.1 hx
  obtain ⟨ys, rfl⟩ : ∃ ys : List AK, ys.map Subtype.val = xs := ⟨xs.pmap Subtype.mk hx', by simp [List.map_pmap]⟩
  have hH : HoldsK encK 17 w g 0 ys.toArray := by
    have := Own.holds fA (k := 17) rfl lenA h
    unfold HoldsK at this ⊢
    rw [flatK_valA]; exact this
  have hlen : (ys.map Subtype.val).length = ys.toArray.size := by simp
  have hgl : g < w.heap.size := h.lt g (by simp [blkL])
  have hO := Tryz.slices_SortFunc_Addr (α := AK) 17 (fun w => by kernel_rfl) (fun w => by kernel_rfl) encK (fun x => lenA x.1) (fun x v hv => oneA w x.1 v hv) cfK sk_swo 33 #[] g 0 cap ys.toArray w (fun args w => run_callFunc (by kernel_rfl) args w) (fun _ _ _ _ x y => addr_exact x.1 y.1 _) hH hgl (by rw [← hlen]; exact hl) sk_tot
  rw [hlen]
  refine Calls.mono hO ?_
  rintro e w' ⟨rfl, n, os, rfl⟩
  have e2 : (ys.toArray.toList.mergeSort fun x y => !(ltOf cfK) y x).map Subtype.val = (ys.map Subtype.val).mergeSort leA := List.map_mergeSort fun a _ b _ => rfl
  have e3 : sortWorldK encK 17 w g 0 n (ys.toArray.toList.mergeSort fun x y => !(ltOf cfK) y x).toArray os = sortWorldK cS_api_Addr 17 w g 0 n ((ys.map Subtype.val).mergeSort leA).toArray os := by
    unfold sortWorldK putRowK
    rw [flatK_valA, e2]
  rw [e3]
  refine ⟨_, rfl, rfl, ?_, sort_chg w g _ n os⟩
  exact Own.sorted fA (k := 17) rfl lenA h ((ys.map Subtype.val).mergeSort leA).toArray (by simp) n os
end
def slices_SortS.f (xs : List (List UInt8)) : Option (List (List UInt8)) := if xs.length < 4611686018427387904 then some (xs.mergeSort leS) else none
theorem slices_SortS.walk (w : World) (M : List Nat) (hM : MS M w) (xs : List (List UInt8)) (ao : Option Addr) (cap : Nat) (f : Own rStr 9 w M ao cap xs) (r : List (List UInt8)) (H : slices_SortS.f xs = some r) :
    To Tryz.prog 44 [.slice ao xs.length cap, .func (.func 29) #[] #[]] w fun v w' => v = .tuple #[] ∧ r.length = xs.length ∧ Own rStr 9 w' M ao cap r ∧ Chg (blkL ao) w w' ∧ MS M w' := by
  unfold slices_SortS.f at H
  obtain ⟨h1, H⟩ := ite_some H
  obtain rfl := Option.some.inj H
  rcases id f with ⟨rfl, rfl, rfl⟩ | ⟨g, _, rfl, _⟩
  · refine Calls.mono (Tryz.slices_SortFunc_none (α := Nat) none 0 (.func (.func 29) #[] #[]) w) ?_
    rintro e w' ⟨rfl, rfl⟩
    exact ⟨_, rfl, rfl, List.length_mergeSort _, by rw [List.mergeSort_nil]; exact Own.nil, Chg.refl _ _, hM⟩
  · exact (sort_strs w M g cap xs h1 f).mono fun v w' ⟨e1, e2, e3⟩ => ⟨e1, List.length_mergeSort _, e2, e3, hM.chg e3⟩
def slices_CompS.f (xs : List (List UInt8)) : Option (List (List UInt8)) := if xs.length < 4611686018427387904 then some (Go.Lib.compact xs) else none
theorem slices_CompS.walk (w : World) (M : List Nat) (hM : MS M w) (xs : List (List UInt8)) (ao : Option Addr) (cap : Nat) (f : Own rStr 9 w M ao cap xs) (r : List (List UInt8)) (H : slices_CompS.f xs = some r) :
    To Tryz.prog 45 [.slice ao xs.length cap] w fun v w' => v = .slice ao r.length cap ∧ Own rStr 9 w' M ao cap r ∧ Chg (blkL ao) w w' ∧ MS M w' := by
  unfold slices_CompS.f at H
  obtain ⟨h1, H⟩ := ite_some H
  obtain rfl := Option.some.inj H
  rcases id f with ⟨rfl, rfl, rfl⟩ | ⟨g, _, rfl, _⟩
  · refine Calls.mono (Tryz.slices_Compact_string_empty none 0 w) ?_
    rintro e w' ⟨rfl, rfl⟩
    exact ⟨_, rfl, rfl, Own.nil, Chg.refl _ _, hM⟩
  · exact (compact_strs w M g cap xs h1 f).mono fun v w' ⟨e1, e2, e3⟩ => ⟨e1, e2, e3, hM.chg e3⟩
def slices_SortA.f (xs : List S_api_Addr) : Option (List S_api_Addr) := if xs.length < 4611686018427387904 ∧ xs.all okAb = true then some (xs.mergeSort leA) else none
theorem slices_SortA.walk (w : World) (M : List Nat) (hM : MS M w) (xs : List S_api_Addr) (ao : Option Addr) (cap : Nat) (f : Own rS_api_Addr 25 w M ao cap xs) (r : List S_api_Addr) (H : slices_SortA.f xs = some r) :
    To Tryz.prog 47 [.slice ao xs.length cap, .func (.func 33) #[] #[]] w fun v w' => v = .tuple #[] ∧ r.length = xs.length ∧ Own rS_api_Addr 25 w' M ao cap r ∧ Chg (blkL ao) w w' ∧ MS M w' := by
  unfold slices_SortA.f at H
  obtain ⟨⟨h1, h2⟩, H⟩ := ite_some H
  obtain rfl := Option.some.inj H
  rcases id f with ⟨rfl, rfl, rfl⟩ | ⟨g, _, rfl, _⟩
  · refine Calls.mono (Tryz.slices_SortFunc_Addr_none none 0 (.func (.func 33) #[] #[]) w) ?_
    rintro e w' ⟨rfl, rfl⟩
    exact ⟨_, rfl, rfl, List.length_mergeSort _, by rw [List.mergeSort_nil]; exact Own.nil, Chg.refl _ _, hM⟩
  · exact (sort_addrs w M g cap xs h2 h1 f).mono fun v w' ⟨e1, e2, e3⟩ => ⟨e1, List.length_mergeSort _, e2, e3, hM.chg e3⟩
def slices_CompA.f (xs : List S_api_Addr) : Option (List S_api_Addr) := if xs.length < 4611686018427387904 then some (ddA xs xs.length) else none
set_option maxRecDepth 100000 in
theorem slices_CompA.walk (w : World) (M : List Nat) (hM : MS M w) (xs : List S_api_Addr) (ao : Option Addr) (cap : Nat) (f : Own rS_api_Addr 25 w M ao cap xs) (r : List S_api_Addr) (H : slices_CompA.f xs = some r) :
    To Tryz.prog 48 [.slice ao xs.length cap] w fun v w' => v = .slice ao r.length cap ∧ Own rS_api_Addr 25 w' M ao cap r ∧ Chg (blkL ao) w w' ∧ MS M w' := by
  unfold slices_CompA.f at H
  obtain ⟨h1, H⟩ := ite_some H
  obtain rfl := Option.some.inj H
  rcases id f with ⟨rfl, rfl, rfl⟩ | ⟨g, _, rfl, hgM, _⟩
  · refine ent Tryz.func48 rfl [(0, .slice none 0 0)] rfl (by rfl) fun a ha => ?_
    refine wp_seq_k fun K hK => ?_
    refine wp_region_lit ?_
    refine seg ha 1 [(0, .slice none 0 0)] (by kernel_rfl) fun a ha => ?_
    refine hK _ _ ?_; clear hK K
    refine wp_seq_k fun K hK => ?_
    refine wp_seq_k fun K2 hK2 => ?_
    refine wp_region_lit ?_
    refine seg ha 3 [(0, .slice none 0 0), (8, .bool true)] (by kernel_rfl) fun a ha => ?_
    refine hK2 _ _ ?_; clear hK2 K2
    refine cnd ha rfl (fun _ => ?_) (fun h => nomatch h)
    refine wp_seq_k fun K2 hK2 => ?_
    refine wp_region_lit ?_
    refine seg ha 2 [(2, .slice none 0 0)] (by kernel_rfl) fun a ha => ?_
    refine hK2 _ _ ?_; clear hK2 K2
    refine wp_ret ?_
    simp only [Exit.then, Exit.inBlock]
    exact rt1 ha rfl rfl ⟨rfl, Own.nil, Chg.refl _ _, hM⟩
  · obtain ⟨⟨tail, hB, hl⟩, hnc, hcm⟩ := fbA_own f
    refine (compactA_walk w g cap xs tail hB hnc hcm).mono ?_
    rintro v w' ⟨tail', rfl, hB', hl', hc⟩
    refine ⟨rfl, own_fbA hB' (by rw [hl', hl]) (Nat.le_trans (ddA_len xs _) hnc) hcm hgM, hc, hM.chg hc⟩


def joins_gathered_string_joins_Ifaces_1_joins_Ifaces_2_cmp_Compare_string.l0 (a0 : List S_api_Join) (a4 : S_api_Flow) : Nat → (List (List UInt8)) → Int → Option (List (List UInt8))
  | 0, _, _ => none
  | kk + 1, x8, x9 => (if (decide (x9 < (a0.length : Int))) = true then (if 0 ≤ x9 ∧ x9 < (a0.length : Int) then (joins_Ifaces_1.f (rd a0 x9) a4).bind fun t35 => (if t35 = true then (joins_Ifaces_2.f (rd a0 x9)).bind fun t37 => (if (x8.length + ([t37] : List (List UInt8)).length) * 16 ≤ 140737488355328 then joins_gathered_string_joins_Ifaces_1_joins_Ifaces_2_cmp_Compare_string.l0 a0 a4 kk (x8 ++ ([t37] : List (List UInt8))) (IntKind.i64.wrap (x9 + (1 : Int))) else none) else joins_gathered_string_joins_Ifaces_1_joins_Ifaces_2_cmp_Compare_string.l0 a0 a4 kk x8 (IntKind.i64.wrap (x9 + (1 : Int)))) else none) else some (x8 : List (List UInt8)))
def joins_gathered_string_joins_Ifaces_1_joins_Ifaces_2_cmp_Compare_string.f (k : Nat) (a0 : List S_api_Join) (a4 : S_api_Flow) : Option (List (List UInt8)) := (joins_gathered_string_joins_Ifaces_1_joins_Ifaces_2_cmp_Compare_string.l0 a0 a4 k ([] : List (List UInt8)) (0 : Int)).bind fun s6 => (slices_SortS.f s6).bind fun t12 => (slices_CompS.f t12).bind fun t14 => some ((t14 : List (List UInt8)))
set_option maxRecDepth 100000 in
theorem joins_gathered_string_joins_Ifaces_1_joins_Ifaces_2_cmp_Compare_string.walk (w : World) (M : List Nat) (hM : MS M w) (a0 : List S_api_Join) (ao1 : Option Addr) (cap1 : Nat) (f1 : RSl rS_api_Join 38 w M ao1 cap1 a0) (gp4 : Nat) (a4 : S_api_Flow) (hBgp4 : Box w gp4 (cS_api_Flow a4)) (hg_gp4 : gp4 ∈ M) (k : Nat) (r : List (List UInt8)) (H : joins_gathered_string_joins_Ifaces_1_joins_Ifaces_2_cmp_Compare_string.f k a0 a4 = some r) :
    To Tryz.prog 25 [.slice ao1 a0.length cap1, .func (.func 26) #[] #[.pointer (some ⟨gp4, 0, none⟩)], .func (.func 28) #[] #[], .func (.func 29) #[] #[]] w fun v w' => ∃ (ao46 : Option Addr) (cap46 : Nat), v = .slice ao46 r.length cap46 ∧ (Own rStr 9 w' (blkL ao46 ++ (M)) ao46 cap46 r) ∧ (∀ x ∈ blkL ao46, w.heap.size ≤ x) ∧ Chg [] w w' ∧ MS (blkL ao46 ++ (M)) w' := by
 unfold joins_gathered_string_joins_Ifaces_1_joins_Ifaces_2_cmp_Compare_string.f at H
 refine ent Tryz.func25 rfl [(0, .slice ao1 a0.length cap1), (1, .func (.func 26) #[] #[.pointer (some ⟨gp4, 0, none⟩)]), (2, .func (.func 28) #[] #[]), (3, .func (.func 29) #[] #[])] rfl (by rfl) fun a ha => ?_
 have hC : Chg [] w w := Chg.refl _ _
 refine wp_seq_k fun K2 hK2 => ?_
 refine wp_region_lit ?_
 refine seg ha 1 [(0, .slice ao1 a0.length cap1), (1, .func (.func 26) #[] #[.pointer (some ⟨gp4, 0, none⟩)]), (2, .func (.func 28) #[] #[]), (3, .func (.func 29) #[] #[])] (by kernel_rfl) fun a ha => ?_
 refine hK2 _ _ ?_; try clear hK2 K2
 refine wp_seq_k fun K3 hK3 => ?_
 refine wp_region_lit ?_
 refine seg ha 1 [(0, .slice ao1 a0.length cap1), (1, .func (.func 26) #[] #[.pointer (some ⟨gp4, 0, none⟩)]), (2, .func (.func 28) #[] #[]), (3, .func (.func 29) #[] #[]), (9, .slice none 0 0)] (by kernel_rfl) fun a ha => ?_
 refine hK3 _ _ ?_; try clear hK3 K3
 refine wp_seq_k fun K4 hK4 => ?_
 refine wp_seq_k fun K5 hK5 => ?_
 refine wp_region_lit ?_
 refine seg ha 3 [(1, .func (.func 26) #[] #[.pointer (some ⟨gp4, 0, none⟩)]), (2, .func (.func 28) #[] #[]), (3, .func (.func 29) #[] #[]), (9, .slice none 0 0), (12, .slice ao1 a0.length cap1), (13, .int .i64 (a0.length : Int)), (14, .int .i64 (0 : Int))] (by kernel_rfl) fun a ha => ?_
 refine hK5 _ _ ?_; try clear hK5 K5
 refine wp_block ?_
 obtain ⟨s6, H6, H⟩ := bind_some H
 have J6 : ∀ (a : Act) (wx6 : World) (ao10 : Option Addr) (cap10 : Nat), Has a Tryz.f25.ntmps [(3, .func (.func 29) #[] #[]), (9, .slice ao10 s6.length cap10)] → (Own rStr 9 wx6 (blkL ao10 ++ (M)) ao10 cap10 s6) → (Box wx6 gp4 (cS_api_Flow a4)) → (∀ x ∈ blkL ao10, w.heap.size ≤ x) → (∀ x ∈ blkL ao10, x ∉ M) → (Chg [] w wx6) → (MS (blkL ao10 ++ (M)) wx6) → K4 a wx6 := by
  intro a wx6 ao10 cap10 ha f10 hBgp4 e_i10 p_i10_M hC hM
  refine hK4 _ _ ?_; try clear hK4 K4
  refine wp_seq_k fun K11 hK11 => ?_
  refine wp_region_lit ?_
  refine seg ha 2 [(9, .slice ao10 s6.length cap10), (28, .slice ao10 s6.length cap10), (29, .func (.func 29) #[] #[])] (by kernel_rfl) fun a ha => ?_
  obtain ⟨t12, H12, H⟩ := bind_some H
  refine cl ha (by rfl) (by kernel_rfl) (by rfl) (by rfl) (by rfl) (slices_SortS.walk wx6 _ hM s6 ao10 cap10 f10 _ H12) ?_
  rintro _ w12 ⟨rfl, len12, nf12, hc12, hMn⟩ a ha
  rw [← len12] at ha
  have o1 : Ok (blkL ao10) (blkL ao10 ++ (M)) wx6.heap.size := (fun _ h => .inl (ml h))
  have o2 : Ok (blkL ao10 ++ (M)) (blkL ao10 ++ (M)) wx6.heap.size := (Ok.refl _ _)
  have hBgp4 := hBgp4.chg hc12 ((fun x (hx : x ∈ [gp4]) (hy : x ∈ blkL ao10) => p_i10_M x hy (by rw [List.mem_singleton.1 hx]; exact hg_gp4)) gp4 (by simp))
  have hM : MS (blkL ao10 ++ (M)) w12 := (hM.chg hc12)
  have hC := hC.trans hc12 (fun x h => .inr (e_i10 x h))
  have f10 := nf12
  refine hK11 _ _ ?_; try clear hK11 K11
  refine wp_seq_k fun K13 hK13 => ?_
  refine wp_region_lit ?_
  refine seg ha 1 [(31, .slice ao10 t12.length cap10)] (by kernel_rfl) fun a ha => ?_
  obtain ⟨t14, H14, H⟩ := bind_some H
  refine cl ha (by rfl) (by kernel_rfl) (by rfl) (by rfl) (by rfl) (slices_CompS.walk w12 _ hM t12 ao10 cap10 f10 _ H14) ?_
  rintro _ w14 ⟨rfl, nf14, hc14, hMn⟩ a ha
  have o1 : Ok (blkL ao10) (blkL ao10 ++ (M)) w12.heap.size := (fun _ h => .inl (ml h))
  have o2 : Ok (blkL ao10 ++ (M)) (blkL ao10 ++ (M)) w12.heap.size := (Ok.refl _ _)
  have hBgp4 := hBgp4.chg hc14 ((fun x (hx : x ∈ [gp4]) (hy : x ∈ blkL ao10) => p_i10_M x hy (by rw [List.mem_singleton.1 hx]; exact hg_gp4)) gp4 (by simp))
  have hM : MS (blkL ao10 ++ (M)) w14 := (hM.chg hc14)
  have hC := hC.trans hc14 (fun x h => .inr (e_i10 x h))
  have f10 := nf14
  refine seg ha 1 [(8, .slice ao10 t14.length cap10)] (by kernel_rfl) fun a ha => ?_
  refine hK13 _ _ ?_; try clear hK13 K13
  refine wp_ret ?_
  try simp only [Exit.then, Exit.inBlock]
  obtain rfl := Option.some.inj H
  refine rt1 ha rfl rfl ?_
  exact ⟨ao10, cap10, rfl, f10, e_i10, hC, hM⟩
 have Hc6 := H
 have H := H6
 refine wp_loop_ghost (fun kk a w6 => ∃ (x8 : List (List UInt8)) (x9 : Int) (ao7 : Option Addr) (cap7 : Nat), joins_gathered_string_joins_Ifaces_1_joins_Ifaces_2_cmp_Compare_string.l0 a0 a4 kk x8 x9 = some s6 ∧ Has a Tryz.f25.ntmps [(1, .func (.func 26) #[] #[.pointer (some ⟨gp4, 0, none⟩)]), (2, .func (.func 28) #[] #[]), (3, .func (.func 29) #[] #[]), (9, .slice ao7 x8.length cap7), (12, .slice ao1 a0.length cap1), (13, .int .i64 (a0.length : Int)), (14, .int .i64 x9)] ∧ (Own rStr 9 w6 (blkL ao7 ++ (M)) ao7 cap7 x8) ∧ (RSl rS_api_Join 38 w6 (blkL ao7 ++ (M)) ao1 cap1 a0) ∧ (Box w6 gp4 (cS_api_Flow a4)) ∧ (∀ x ∈ blkL ao7, w.heap.size ≤ x) ∧ (∀ x ∈ blkL ao7, x ∉ M) ∧ (Chg [] w w6) ∧ (MS (blkL ao7 ++ (M)) w6)) k ?_ ?_
 ·skip
  have o1 : Ok [] (M) w.heap.size := Ok.nil _ _
  have o2 : Ok (blkL none ++ (M)) (M) w.heap.size := (Ok.app (fun _ h => nomatch h) (Ok.refl _ _))
  have f1 := f1.chg (Chg.refl [] _) o1 o2
  have p_z15_M : ∀ x ∈ blkL none, x ∉ M := fun x hx hy => absurd (hM x (hy)) (Nat.not_lt.2 ((fun _ h => nomatch h) x hx))
  have e_z15 : ∀ x ∈ blkL none, w.heap.size ≤ x := fun x hx => Nat.le_trans hC.size ((fun _ h => nomatch h) x hx)
  have hM : MS (blkL none ++ (M)) w := (MS.app (fun _ h => nomatch h) (hM.chg (Chg.refl [] _)))
  exact ⟨([] : List (List UInt8)), (0 : Int), none, 0, H, (ha.sel (by kernel_rfl)), Own.nil, f1, hBgp4, e_z15, p_z15_M, hC, hM⟩
 ·rintro kk a w6 ⟨x8, x9, ao7, cap7, H, ha, f7, f1, hBgp4, e_i7, p_i7_M, hC, hM⟩
  obtain _ | kk := kk
  ·exact nomatch (show none = some _ from H)
  rw [joins_gathered_string_joins_Ifaces_1_joins_Ifaces_2_cmp_Compare_string.l0] at H
  refine wp_seq_k fun K16 hK16 => ?_
  refine wp_region_lit ?_
  refine seg ha 1 [(1, .func (.func 26) #[] #[.pointer (some ⟨gp4, 0, none⟩)]), (2, .func (.func 28) #[] #[]), (3, .func (.func 29) #[] #[]), (9, .slice ao7 x8.length cap7), (12, .slice ao1 a0.length cap1), (13, .int .i64 (a0.length : Int)), (14, .int .i64 x9), (15, .bool (decide (x9 < (a0.length : Int))))] (by kernel_rfl) fun a ha => ?_
  refine hK16 _ _ ?_; try clear hK16 K16
  refine wp_seq_k fun K17 hK17 => ?_
  refine cnd ha rfl (fun hc18 => ?_) (fun hc18 => ?_)
  ·have H := ite_t hc18 H
   refine wp_skip ?_
   refine hK17 _ _ ?_; try clear hK17 K17
   refine wp_seq_k fun K19 hK19 => ?_
   refine wp_block ?_
   refine wp_seq_k fun K20 hK20 => ?_
   refine wp_region_lit ?_
   obtain ⟨⟨hx21, hx21'⟩, H⟩ := ite_some H
   refine ix (r := rS_api_Join) ha (by kernel_rfl) (by kernel_rfl) rfl rfl rfl rfl rfl f1 hx21 hx21' fun a ge22 oe23 cs24 hn27 hR25 hE26 ha => ?_
   rw [rd_get] at hR25
   obtain rfl := rS_api_Join.open hR25
   refine ldA (cs := (cS_api_Join (rd a0 x9))) ha rfl (by kernel_rfl) rfl rfl rfl (cells_sub hE26 (all := (cS_api_Join (rd a0 x9))) [] [] (by kernel_rfl)) fun a ha => ?_
   refine al (cs := (cS_api_Join (⟨([] : List UInt8), ([] : List UInt8), (⟨(0 : Int), (List.replicate 16 (0 : Int))⟩ : S_api_Addr), (⟨(0 : Int), (List.replicate 16 (0 : Int))⟩ : S_api_Addr)⟩ : S_api_Join))) (z := .agg (cS_api_Join (⟨([] : List UInt8), ([] : List UInt8), (⟨(0 : Int), (List.replicate 16 (0 : Int))⟩ : S_api_Addr), (⟨(0 : Int), (List.replicate 16 (0 : Int))⟩ : S_api_Addr)⟩ : S_api_Join)).toArray) ha (fun w => by kernel_rfl) rfl rfl rfl rfl fun a w28 g29 hN30 ha => ?_
   have o1 : Ok [] (blkL ao7 ++ (M)) w6.heap.size := Ok.nil _ _
   have o2 : Ok ([g29] ++ (blkL ao7 ++ (M))) (blkL ao7 ++ (M)) w6.heap.size := (Ok.app (hN30.ok _) (Ok.refl _ _))
   have f7 := f7.chg hN30.chg o1 o2 (fun _ _ h => nomatch h) (fun _ h => mr (ml h))
   have f1 := f1.chg hN30.chg o1 o2
   have hBgp4 := hBgp4.chg hN30.chg (fun h => nomatch h)
   have p_i31_i7 : ∀ x ∈ [g29], x ∉ (blkL ao7) := fun x hx hy => absurd (hM x (ml hy)) (Nat.not_lt.2 ((hN30.ge1) x hx))
   have p_i31_M : ∀ x ∈ [g29], x ∉ M := fun x hx hy => absurd (hM x (mr (hy))) (Nat.not_lt.2 ((hN30.ge1) x hx))
   have e_i31 : ∀ x ∈ [g29], w.heap.size ≤ x := fun x hx => Nat.le_trans hC.size ((hN30.ge1) x hx)
   have hM : MS ([g29] ++ (blkL ao7 ++ (M))) w28 := (MS.app hN30.ms (hM.chg hN30.chg))
   have hC := hC.trans hN30.chg (Ok.nil _ _)
   have hBg29 : Box w28 g29 (cS_api_Join (⟨([] : List UInt8), ([] : List UInt8), (⟨(0 : Int), (List.replicate 16 (0 : Int))⟩ : S_api_Addr), (⟨(0 : Int), (List.replicate 16 (0 : Int))⟩ : S_api_Addr)⟩ : S_api_Join)) := hN30.box
   refine stA (l := (cS_api_Join (rd a0 x9))) ha rfl rfl rfl (by kernel_rfl) rfl rfl hBg29 rfl fun a w32 ha hb2 hc33 _ => ?_
   have o1 : Ok [g29] ([g29] ++ (blkL ao7 ++ (M))) w28.heap.size := (fun _ h => .inl (ml h))
   have o2 : Ok ([g29] ++ (blkL ao7 ++ (M))) ([g29] ++ (blkL ao7 ++ (M))) w28.heap.size := (Ok.refl _ _)
   have f7 := f7.chg hc33 o1 o2 (fun x (hx : x ∈ blkL ao7) (hy : x ∈ [g29]) => p_i31_i7 x hy hx) (fun _ h => mr (ml h))
   have f1 := f1.chg hc33 o1 o2
   have hBgp4 := hBgp4.chg hc33 ((fun x (hx : x ∈ [gp4]) (hy : x ∈ [g29]) => p_i31_M x hy (by rw [List.mem_singleton.1 hx]; exact hg_gp4)) gp4 (by simp))
   have hM : MS ([g29] ++ (blkL ao7 ++ (M))) w32 := (hM.chg hc33)
   have hC := hC.trans hc33 (fun x h => .inr (e_i31 x h))
   have hBg29 : Box w32 g29 (cS_api_Join (rd a0 x9)) := hb2
   refine hK20 _ _ ?_; try clear hK20 K20
   refine wp_seq_k fun K34 hK34 => ?_
   refine wp_region_lit ?_
   refine seg ha 1 [(1, .func (.func 26) #[] #[.pointer (some ⟨gp4, 0, none⟩)]), (2, .func (.func 28) #[] #[]), (3, .func (.func 29) #[] #[]), (9, .slice ao7 x8.length cap7), (11, .pointer (some ⟨g29, 0, none⟩)), (12, .slice ao1 a0.length cap1), (13, .int .i64 (a0.length : Int)), (14, .int .i64 x9), (18, .func (.func 26) #[] #[.pointer (some ⟨gp4, 0, none⟩)])] (by kernel_rfl) fun a ha => ?_
   refine ldA (cs := (cS_api_Join (rd a0 x9))) ha rfl (by kernel_rfl) rfl rfl rfl (cells_sub (Box.cells hBg29) (all := (cS_api_Join (rd a0 x9))) [] [] (by kernel_rfl)) fun a ha => ?_
   obtain ⟨t35, H35, H⟩ := bind_some H
   refine clc (vals := [.agg (cS_api_Join (rd a0 x9)).toArray]) (cs := #[.pointer (some ⟨gp4, 0, none⟩)]) ha (by rfl) (by rfl) (by kernel_rfl) (by rfl) (by rfl) (by rfl) (joins_Ifaces_1.walk w32 _ hM (rd a0 x9) gp4 a4 hBgp4 (mr (mr (hg_gp4))) _ H35) ?_
   rintro _ w35 ⟨rfl, hc35, hMn⟩ a ha
   have o1 : Ok [] ([g29] ++ (blkL ao7 ++ (M))) w32.heap.size := Ok.nil _ _
   have o2 : Ok ([g29] ++ (blkL ao7 ++ (M))) ([g29] ++ (blkL ao7 ++ (M))) w32.heap.size := (Ok.refl _ _)
   have f7 := f7.chg hc35 o1 o2 (fun _ _ h => nomatch h) (fun _ h => mr (ml h))
   have f1 := f1.chg hc35 o1 o2
   have hBgp4 := hBgp4.chg hc35 (fun h => nomatch h)
   have hBg29 := hBg29.chg hc35 (fun h => nomatch h)
   have hM : MS ([g29] ++ (blkL ao7 ++ (M))) w35 := (hM.chg hc35)
   have hC := hC.trans hc35 (Ok.nil _ _)
   refine hK34 _ _ ?_; try clear hK34 K34
   refine cnd ha rfl (fun hc36 => ?_) (fun hc36 => ?_)
   ·have H := ite_t hc36 H
    refine wp_region_lit ?_
    refine seg ha 2 [(1, .func (.func 26) #[] #[.pointer (some ⟨gp4, 0, none⟩)]), (2, .func (.func 28) #[] #[]), (3, .func (.func 29) #[] #[]), (11, .pointer (some ⟨g29, 0, none⟩)), (12, .slice ao1 a0.length cap1), (13, .int .i64 (a0.length : Int)), (14, .int .i64 x9), (21, .slice ao7 x8.length cap7), (22, .func (.func 28) #[] #[])] (by kernel_rfl) fun a ha => ?_
    refine ldA (cs := (cS_api_Join (rd a0 x9))) ha rfl (by kernel_rfl) rfl rfl rfl (cells_sub (Box.cells hBg29) (all := (cS_api_Join (rd a0 x9))) [] [] (by kernel_rfl)) fun a ha => ?_
    obtain ⟨t37, H37, H⟩ := bind_some H
    refine clv ha (by rfl) (by rfl) (by kernel_rfl) (by rfl) (by rfl) (by rfl) (joins_Ifaces_2.walk w35 _ hM (rd a0 x9) _ H37) ?_
    rintro _ w37 ⟨rfl, hc37, hMn⟩ a ha
    have o1 : Ok [] ([g29] ++ (blkL ao7 ++ (M))) w35.heap.size := Ok.nil _ _
    have o2 : Ok ([g29] ++ (blkL ao7 ++ (M))) ([g29] ++ (blkL ao7 ++ (M))) w35.heap.size := (Ok.refl _ _)
    have f1 := f1.chg hc37 o1 o2
    have f7 := f7.chg hc37 o1 o2 (fun _ _ h => nomatch h) (fun _ h => mr (ml h))
    have hBgp4 := hBgp4.chg hc37 (fun h => nomatch h)
    have hBg29 := hBg29.chg hc37 (fun h => nomatch h)
    have hM : MS ([g29] ++ (blkL ao7 ++ (M))) w37 := (hM.chg hc37)
    have hC := hC.trans hc37 (Ok.nil _ _)
    refine bsl (vals := ([.string (bstr t37)] : List Value)) (T := 9) ha rfl (([.string (bstr t37)] : List Value) ++ ([] : List Value)) (fun w => by kernel_rfl) rfl rfl rfl fun a w38 g39 hN40 ha => ?_
    have o1 : Ok [] ([g29] ++ (blkL ao7 ++ (M))) w37.heap.size := Ok.nil _ _
    have o2 : Ok ([g39] ++ ([g29] ++ (blkL ao7 ++ (M)))) ([g29] ++ (blkL ao7 ++ (M))) w37.heap.size := (Ok.app (hN40.ok _) (Ok.refl _ _))
    have f1 := f1.chg hN40.chg o1 o2
    have f7 := f7.chg hN40.chg o1 o2 (fun _ _ h => nomatch h) (fun _ h => mr (mr (ml h)))
    have hBgp4 := hBgp4.chg hN40.chg (fun h => nomatch h)
    have hBg29 := hBg29.chg hN40.chg (fun h => nomatch h)
    have p_i41_i31 : ∀ x ∈ [g39], x ∉ ([g29]) := fun x hx hy => absurd (hM x (ml hy)) (Nat.not_lt.2 ((hN40.ge1) x hx))
    have p_i41_i7 : ∀ x ∈ [g39], x ∉ (blkL ao7) := fun x hx hy => absurd (hM x (mr (ml hy))) (Nat.not_lt.2 ((hN40.ge1) x hx))
    have p_i41_M : ∀ x ∈ [g39], x ∉ M := fun x hx hy => absurd (hM x (mr (mr (hy)))) (Nat.not_lt.2 ((hN40.ge1) x hx))
    have e_i41 : ∀ x ∈ [g39], w.heap.size ≤ x := fun x hx => Nat.le_trans hC.size ((hN40.ge1) x hx)
    have hM : MS ([g39] ++ ([g29] ++ (blkL ao7 ++ (M)))) w38 := (MS.app hN40.ms (hM.chg hN40.chg))
    have hC := hC.trans hN40.chg (Ok.nil _ _)
    have f42 : Own rStr 9 w38 ([g39] ++ ([g29] ++ (blkL ao7 ++ (M)))) (some ⟨g39, 0, none⟩) 1 ([t37] : List (List UInt8)) := hN40.own ⟨([.string (bstr t37)] : List Value), _, rfl, rfl, rfl⟩ (Nat.le_of_ble_eq_true rfl)
    obtain ⟨hx43, H⟩ := ite_some H
    refine app (r := rStr) (xs := x8) (ys := ([t37] : List (List UInt8))) ha (ElemT.mk' (bytes := 16) (by kernel_rfl)) rfl rfl rfl rfl rfl f7 f42.src hx43 (by decide) fun a w44 ao45 cap45 hO45 hc45 hk45 hl45 ha => ?_
    have o1 : Ok (blkL ao7) ([g39] ++ ([g29] ++ (blkL ao7 ++ (M)))) w38.heap.size := (fun _ h => .inl (mr (mr (ml h))))
    have o2 : Ok (blkL ao45 ++ ([g39] ++ ([g29] ++ (M)))) ([g39] ++ ([g29] ++ (blkL ao7 ++ (M)))) w38.heap.size := (Ok.app (Ok.to hk45 (fun _ h => mr (mr (ml h)))) (Ok.app (fun _ h => .inl (ml h)) (Ok.app (fun _ h => .inl (mr (ml h))) (fun _ h => .inl (mr (mr (mr (h))))))))
    have f1 := f1.chg hc45 o1 o2
    have f42 := f42.chg hc45 o1 o2 p_i41_i7 (fun _ h => mr (ml h))
    have hBgp4 := hBgp4.chg hc45 ((fun x (hx : x ∈ [gp4]) (hy : x ∈ blkL ao7) => p_i7_M x hy (by rw [List.mem_singleton.1 hx]; exact hg_gp4)) gp4 (by simp))
    have hBg29 := hBg29.chg hc45 (p_i31_i7 g29 (by simp))
    have p_i45_i41 : ∀ x ∈ blkL ao45, x ∉ ([g39]) := fun x hx hy => (hk45 x hx).elim (fun h => (fun x hx hy => p_i41_i7 x hy hx) x h hy) (fun h => absurd (hM x (ml hy)) (Nat.not_lt.2 h))
    have p_i45_i31 : ∀ x ∈ blkL ao45, x ∉ ([g29]) := fun x hx hy => (hk45 x hx).elim (fun h => (fun x hx hy => p_i31_i7 x hy hx) x h hy) (fun h => absurd (hM x (mr (ml hy))) (Nat.not_lt.2 h))
    have p_i45_M : ∀ x ∈ blkL ao45, x ∉ M := fun x hx hy => (hk45 x hx).elim (fun h => p_i7_M x h hy) (fun h => absurd (hM x (mr (mr (mr (hy))))) (Nat.not_lt.2 h))
    have e_i45 : ∀ x ∈ blkL ao45, w.heap.size ≤ x := fun x hx => (hk45 x hx).elim (e_i7 x) (Nat.le_trans hC.size)
    have hM : MS (blkL ao45 ++ ([g39] ++ ([g29] ++ (M)))) w44 := (MS.app hl45 (MS.app (fun x h => hM.chg hc45 x (ml h)) (MS.app (fun x h => hM.chg hc45 x (mr (ml h))) (fun x h => hM.chg hc45 x (mr (mr (mr (h))))))))
    have hC := hC.trans hc45 (fun x h => .inr (e_i7 x h))
    have f45 := hO45.chg (M' := blkL ao45 ++ ([g39] ++ ([g29] ++ (M)))) (Chg.refl [] _) (Ok.nil _ _) (Ok.app (fun _ h => .inl (ml h)) (Ok.to (Ok.app (fun _ h => .inl (ml h)) (Ok.app (fun _ h => .inl (mr (ml h))) (fun _ h => .inl (mr (mr (mr (h))))))) (fun _ h => mr h))) (fun _ _ h => nomatch h) (fun _ h => ml h)
    refine seg ha 1 [(1, .func (.func 26) #[] #[.pointer (some ⟨gp4, 0, none⟩)]), (2, .func (.func 28) #[] #[]), (3, .func (.func 29) #[] #[]), (9, .slice ao45 (x8 ++ ([t37] : List (List UInt8))).length cap45), (12, .slice ao1 a0.length cap1), (13, .int .i64 (a0.length : Int)), (14, .int .i64 x9)] (by kernel_rfl) fun a ha => ?_
    refine hK19 _ _ ?_; try clear hK19 K19
    refine wp_region_lit ?_
    refine seg ha 2 [(1, .func (.func 26) #[] #[.pointer (some ⟨gp4, 0, none⟩)]), (2, .func (.func 28) #[] #[]), (3, .func (.func 29) #[] #[]), (9, .slice ao45 (x8 ++ ([t37] : List (List UInt8))).length cap45), (12, .slice ao1 a0.length cap1), (13, .int .i64 (a0.length : Int)), (14, .int .i64 (IntKind.i64.wrap (x9 + (1 : Int))))] (by kernel_rfl) fun a ha => ?_
    have o1 : Ok [] (blkL ao45 ++ ([g39] ++ ([g29] ++ (M)))) w44.heap.size := Ok.nil _ _
    have o2 : Ok (blkL ao45 ++ (M)) (blkL ao45 ++ ([g39] ++ ([g29] ++ (M)))) w44.heap.size := (Ok.app (fun _ h => .inl (ml h)) (fun _ h => .inl (mr (mr (mr (h))))))
    have f1 := f1.chg (Chg.refl [] _) o1 o2
    have f45 := f45.chg (Chg.refl [] _) o1 o2 (fun _ _ h => nomatch h) (fun _ h => ml h)
    have hM : MS (blkL ao45 ++ (M)) w44 := (MS.app (fun x h => hM.chg (Chg.refl [] _) x (ml h)) (fun x h => hM.chg (Chg.refl [] _) x (mr (mr (mr (h))))))
    exact ⟨kk, Nat.lt_succ_self _, ⟨(x8 ++ ([t37] : List (List UInt8))), IntKind.i64.wrap (x9 + (1 : Int)), ao45, cap45, H, (ha.sel (by kernel_rfl)), f45, f1, hBgp4, e_i45, p_i45_M, hC, hM⟩⟩
   ·have H := ite_f hc36 H
    refine wp_skip ?_
    refine hK19 _ _ ?_; try clear hK19 K19
    refine wp_region_lit ?_
    refine seg ha 2 [(1, .func (.func 26) #[] #[.pointer (some ⟨gp4, 0, none⟩)]), (2, .func (.func 28) #[] #[]), (3, .func (.func 29) #[] #[]), (9, .slice ao7 x8.length cap7), (12, .slice ao1 a0.length cap1), (13, .int .i64 (a0.length : Int)), (14, .int .i64 (IntKind.i64.wrap (x9 + (1 : Int))))] (by kernel_rfl) fun a ha => ?_
    have o1 : Ok [] ([g29] ++ (blkL ao7 ++ (M))) w35.heap.size := Ok.nil _ _
    have o2 : Ok (blkL ao7 ++ (M)) ([g29] ++ (blkL ao7 ++ (M))) w35.heap.size := (fun _ h => .inl (mr (h)))
    have f7 := f7.chg (Chg.refl [] _) o1 o2 (fun _ _ h => nomatch h) (fun _ h => ml h)
    have f1 := f1.chg (Chg.refl [] _) o1 o2
    have hM : MS (blkL ao7 ++ (M)) w35 := (fun x h => hM.chg (Chg.refl [] _) x (mr (h)))
    exact ⟨kk, Nat.lt_succ_self _, ⟨x8, IntKind.i64.wrap (x9 + (1 : Int)), ao7, cap7, H, (ha.sel (by kernel_rfl)), f7, f1, hBgp4, e_i7, p_i7_M, hC, hM⟩⟩
  ·have H := ite_f hc18 H
   refine wp_exit ?_
   simp only [Exit.then, Exit.inBlock, ↓reduceIte, Nat.reduceEqDiff]
   obtain rfl := Option.some.inj H
   exact J6 _ _ ao7 cap7 (ha.sel (by kernel_rfl)) f7 hBgp4 e_i7 p_i7_M hC hM
def joins_Ifaces.f (k : Nat) (a0 : List S_api_Join) (a1 : S_api_Flow) : Option (List (List UInt8)) := (joins_gathered_string_joins_Ifaces_1_joins_Ifaces_2_cmp_Compare_string.f k a0 a1).bind fun t8 => some ((t8 : List (List UInt8)))
set_option maxRecDepth 100000 in
theorem joins_Ifaces.walk (w : World) (M : List Nat) (hM : MS M w) (a0 : List S_api_Join) (ao1 : Option Addr) (cap1 : Nat) (f1 : RSl rS_api_Join 38 w M ao1 cap1 a0) (a1 : S_api_Flow) (k : Nat) (r : List (List UInt8)) (H : joins_Ifaces.f k a0 a1 = some r) :
    To Tryz.prog 8 [.slice ao1 a0.length cap1, .agg (cS_api_Flow a1).toArray] w fun v w' => ∃ (ao10 : Option Addr) (cap10 : Nat), v = .slice ao10 r.length cap10 ∧ (Own rStr 9 w' (blkL ao10 ++ (M)) ao10 cap10 r) ∧ (∀ x ∈ blkL ao10, w.heap.size ≤ x) ∧ Chg [] w w' ∧ MS (blkL ao10 ++ (M)) w' := by
 unfold joins_Ifaces.f at H
 refine ent Tryz.func8 rfl [(0, .slice ao1 a0.length cap1), (1, .agg (cS_api_Flow a1).toArray)] rfl (by rfl) fun a ha => ?_
 have hC : Chg [] w w := Chg.refl _ _
 refine wp_seq_k fun K2 hK2 => ?_
 refine wp_region_lit ?_
 refine bx (cs := (cS_api_Flow a1)) ha rfl rfl rfl rfl rfl fun a w3 g4 hN5 ha => ?_
 have o1 : Ok [] (M) w.heap.size := Ok.nil _ _
 have o2 : Ok ([g4] ++ (M)) (M) w.heap.size := (Ok.app (hN5.ok _) (Ok.refl _ _))
 have f1 := f1.chg hN5.chg o1 o2
 have p_i6_M : ∀ x ∈ [g4], x ∉ M := fun x hx hy => absurd (hM x (hy)) (Nat.not_lt.2 ((hN5.ge1) x hx))
 have e_i6 : ∀ x ∈ [g4], w.heap.size ≤ x := fun x hx => Nat.le_trans hC.size ((hN5.ge1) x hx)
 have hM : MS ([g4] ++ (M)) w3 := (MS.app hN5.ms (hM.chg hN5.chg))
 have hC := hC.trans hN5.chg (Ok.nil _ _)
 have hBg4 : Box w3 g4 (cS_api_Flow a1) := hN5.box
 refine seg ha 1 [(0, .slice ao1 a0.length cap1), (3, .pointer (some ⟨g4, 0, none⟩))] (by kernel_rfl) fun a ha => ?_
 refine hK2 _ _ ?_; try clear hK2 K2
 refine wp_seq_k fun K7 hK7 => ?_
 refine wp_region_lit ?_
 refine seg ha 1 [(3, .pointer (some ⟨g4, 0, none⟩)), (5, .slice ao1 a0.length cap1)] (by kernel_rfl) fun a ha => ?_
 refine opk (v := .func (.func 26) #[] #[.pointer (some ⟨g4, 0, none⟩)]) ha rfl rfl rfl rfl rfl (fun w => by kernel_rfl) fun a ha => ?_
 obtain ⟨t8, H8, H⟩ := bind_some H
 refine cl ha (by rfl) (by kernel_rfl) (by rfl) (by rfl) (by rfl) (joins_gathered_string_joins_Ifaces_1_joins_Ifaces_2_cmp_Compare_string.walk w3 _ hM a0 ao1 cap1 f1 g4 a1 hBg4 (ml (List.mem_singleton.2 rfl)) k _ H8) ?_
 rintro _ w8 ⟨ao9, cap9, rfl, f9, ne_i9, hc8, hMn⟩ a ha
 have o1 : Ok [] ([g4] ++ (M)) w3.heap.size := Ok.nil _ _
 have o2 : Ok (blkL ao9 ++ ([g4] ++ (M))) ([g4] ++ (M)) w3.heap.size := (Ok.app (fun x h => .inr (ne_i9 x h)) (Ok.refl _ _))
 have f1 := f1.chg hc8 o1 o2
 have hBg4 := hBg4.chg hc8 (fun h => nomatch h)
 have p_i9_i6 : ∀ x ∈ blkL ao9, x ∉ ([g4]) := fun x hx hy => absurd (hM x (ml hy)) (Nat.not_lt.2 (ne_i9 x hx))
 have p_i9_M : ∀ x ∈ blkL ao9, x ∉ M := fun x hx hy => absurd (hM x (mr (hy))) (Nat.not_lt.2 (ne_i9 x hx))
 have e_i9 : ∀ x ∈ blkL ao9, w.heap.size ≤ x := fun x hx => Nat.le_trans hC.size (ne_i9 x hx)
 have hM : MS (blkL ao9 ++ ([g4] ++ (M))) w8 := (MS.app (fun x h => hMn x (ml h)) (hM.chg hc8))
 have hC := hC.trans hc8 (Ok.nil _ _)
 refine seg ha 1 [(4, .slice ao9 t8.length cap9)] (by kernel_rfl) fun a ha => ?_
 refine hK7 _ _ ?_; try clear hK7 K7
 refine wp_ret ?_
 try simp only [Exit.then, Exit.inBlock]
 have o1 : Ok [] (blkL ao9 ++ ([g4] ++ (M))) w8.heap.size := Ok.nil _ _
 have o2 : Ok (blkL ao9 ++ (M)) (blkL ao9 ++ ([g4] ++ (M))) w8.heap.size := (Ok.app (fun _ h => .inl (ml h)) (fun _ h => .inl (mr (mr (h)))))
 have f9 := f9.chg (Chg.refl [] _) o1 o2 (fun _ _ h => nomatch h) (fun _ h => ml h)
 have hM : MS (blkL ao9 ++ (M)) w8 := (MS.app (fun x h => hM.chg (Chg.refl [] _) x (ml h)) (fun x h => hM.chg (Chg.refl [] _) x (mr (mr (h)))))
 obtain rfl := Option.some.inj H
 refine rt1 ha rfl rfl ?_
 exact ⟨ao9, cap9, rfl, f9, e_i9, hC, hM⟩
def joins_Groups_1.f (a0 : S_api_Join) (a1 : List UInt8) : Option (Bool) := ((if ((bstr a0.Vrf).toList == (bstr a1).toList) = true then some (a0.Source.Size == (0 : Int) : Bool) else some (false : Bool))).bind fun s8 => some ((s8 : Bool))
set_option maxRecDepth 100000 in
theorem joins_Groups_1.walk (w : World) (M : List Nat) (hM : MS M w) (a0 : S_api_Join) (gp1 : Nat) (a1 : List UInt8) (hBgp1 : Box w gp1 ([.string (bstr a1)] : List Value)) (hg_gp1 : gp1 ∈ M) (r : Bool) (H : joins_Groups_1.f a0 a1 = some r) :
    To Tryz.prog 30 [.agg (cS_api_Join a0).toArray, .pointer (some ⟨gp1, 0, none⟩)] w fun v w' => v = .bool r ∧ Chg [] w w' ∧ MS (M) w' := by
 unfold joins_Groups_1.f at H
 refine ent Tryz.func30 rfl [(0, .agg (cS_api_Join a0).toArray), (1, .pointer (some ⟨gp1, 0, none⟩))] rfl (by rfl) fun a ha => ?_
 have hC : Chg [] w w := Chg.refl _ _
 refine wp_seq_k fun K1 hK1 => ?_
 refine wp_region_lit ?_
 refine bx (cs := (cS_api_Join a0)) ha rfl rfl rfl rfl rfl fun a w2 g3 hN4 ha => ?_
 have hn6 := hN4.notin hM
 have hBgp1 := hBgp1.chg hN4.chg (fun h => nomatch h)
 have hM : MS (M) w2 := (hM.chg hN4.chg)
 have hC := hC.trans hN4.chg (Ok.nil _ _)
 have hE5 : ∀ j v, (cS_api_Join a0)[j]? = some v → w2.cell? ⟨g3, 0 + j, none⟩ = some v := Box.cells (New.box hN4)
 refine seg ha 1 [(1, .pointer (some ⟨gp1, 0, none⟩)), (2, .pointer (some ⟨g3, 0, none⟩))] (by kernel_rfl) fun a ha => ?_
 refine hK1 _ _ ?_; try clear hK1 K1
 refine wp_seq_k fun K7 hK7 => ?_
 refine wp_region_lit ?_
 obtain ⟨s8, H8, H⟩ := bind_some H
 have J8 : ∀ (a : Act) (w8 : World), Has a Tryz.f30.ntmps [(3, .bool s8)] → (Box w8 gp1 ([.string (bstr a1)] : List Value)) → (Chg [] w w8) → (MS (M) w8) → K7 a w8 := by
  intro a w8 ha hBgp1 hC hM
  refine hK7 _ _ ?_; try clear hK7 K7
  refine wp_ret ?_
  try simp only [Exit.then, Exit.inBlock]
  obtain rfl := Option.some.inj H
  refine rt1 ha rfl rfl ?_
  exact ⟨rfl, hC, hM⟩
 have H := H8
 refine seg ha 1 [(1, .pointer (some ⟨gp1, 0, none⟩)), (2, .pointer (some ⟨g3, 0, none⟩)), (4, .pointer (some ⟨g3, 0, none⟩))] (by kernel_rfl) fun a ha => ?_
 refine ld ha rfl (by kernel_rfl) rfl rfl rfl (hE5 0 (.string (bstr a0.Vrf)) (by kernel_rfl)) fun a ha => ?_
 refine ld (v := .string (bstr a1)) ha rfl (by kernel_rfl) rfl rfl rfl (hBgp1.cell' (o := 0) rfl (by kernel_rfl)) fun a ha => ?_
 refine seg ha 2 [(8, .bool ((bstr a0.Vrf).toList == (bstr a1).toList)), (2, .pointer (some ⟨g3, 0, none⟩))] (by kernel_rfl) fun a ha => ?_
 rcases Bool.eq_false_or_eq_true ((bstr a0.Vrf).toList == (bstr a1).toList) with hb9 | hb9
 ·have ha := ha.lit hb9
  have H := ite_t hb9 H
  refine sgh ha 2 [2, 2] [(8, .bool true), (10, .pointer (some ⟨g3, 0 + 2, none⟩))] (by kernel_rfl) fun a ha => ?_
  refine ld ha rfl (by kernel_rfl) rfl rfl rfl (hE5 2 (.int .i64 a0.Source.Size) (by kernel_rfl)) fun a ha => ?_
  refine sgh ha 3 [2, 3, 0] [(3, .bool (a0.Source.Size == (0 : Int)))] (by kernel_rfl) fun a ha => ?_
  obtain rfl := Option.some.inj H
  exact J8 _ _ (ha.sel (by kernel_rfl)) hBgp1 hC hM
 ·have ha := ha.lit hb9
  have H := ite_f hb9 H
  refine sgh ha 6 [1, 1, 1, 1, 4, 0] [(3, .bool false)] (by kernel_rfl) fun a ha => ?_
  obtain rfl := Option.some.inj H
  exact J8 _ _ (ha.sel (by kernel_rfl)) hBgp1 hC hM
def joins_Groups_2.f (a0 : S_api_Join) : Option (S_api_Addr) := some ((a0.Group : S_api_Addr))
set_option maxRecDepth 100000 in
theorem joins_Groups_2.walk (w : World) (M : List Nat) (hM : MS M w) (a0 : S_api_Join) (r : S_api_Addr) (H : joins_Groups_2.f a0 = some r) :
    To Tryz.prog 32 [.agg (cS_api_Join a0).toArray] w fun v w' => v = .agg (cS_api_Addr r).toArray ∧ Chg [] w w' ∧ MS (M) w' := by
 unfold joins_Groups_2.f at H
 refine ent Tryz.func32 rfl [(0, .agg (cS_api_Join a0).toArray)] rfl (by rfl) fun a ha => ?_
 have hC : Chg [] w w := Chg.refl _ _
 refine wp_seq_k fun K1 hK1 => ?_
 refine wp_region_lit ?_
 refine bx (cs := (cS_api_Join a0)) ha rfl rfl rfl rfl rfl fun a w2 g3 hN4 ha => ?_
 have hn6 := hN4.notin hM
 have hM : MS (M) w2 := (hM.chg hN4.chg)
 have hC := hC.trans hN4.chg (Ok.nil _ _)
 have hE5 : ∀ j v, (cS_api_Join a0)[j]? = some v → w2.cell? ⟨g3, 0 + j, none⟩ = some v := Box.cells (New.box hN4)
 refine al (cs := (cS_api_Addr (⟨(0 : Int), (List.replicate 16 (0 : Int))⟩ : S_api_Addr))) (z := .agg (cS_api_Addr (⟨(0 : Int), (List.replicate 16 (0 : Int))⟩ : S_api_Addr)).toArray) ha (fun w => by kernel_rfl) rfl rfl rfl rfl fun a w7 g8 hN9 ha => ?_
 have o1 : Ok [] (M) w2.heap.size := Ok.nil _ _
 have o2 : Ok ([g8] ++ (M)) (M) w2.heap.size := (Ok.app (hN9.ok _) (Ok.refl _ _))
 have q_hn6 : g3 ∉ [g8] ++ (M) := fun h => (o2 g3 h).elim hn6 (fun h => absurd (lt_cell (hE5 0 _ rfl)) (Nat.not_lt.2 h))
 have hE5 : ∀ j v, (cS_api_Join a0)[j]? = some v → w7.cell? ⟨g3, 0 + j, none⟩ = some v := fun j v hv => (cell_keep hN9.chg o1 hn6 (hE5 j v hv))
 have hn6 := q_hn6
 have p_i10_M : ∀ x ∈ [g8], x ∉ M := fun x hx hy => absurd (hM x (hy)) (Nat.not_lt.2 ((hN9.ge1) x hx))
 have e_i10 : ∀ x ∈ [g8], w.heap.size ≤ x := fun x hx => Nat.le_trans hC.size ((hN9.ge1) x hx)
 have hM : MS ([g8] ++ (M)) w7 := (MS.app hN9.ms (hM.chg hN9.chg))
 have hC := hC.trans hN9.chg (Ok.nil _ _)
 have hBg8 : Box w7 g8 (cS_api_Addr (⟨(0 : Int), (List.replicate 16 (0 : Int))⟩ : S_api_Addr)) := hN9.box
 refine hK1 _ _ ?_; try clear hK1 K1
 refine wp_seq_k fun K11 hK11 => ?_
 refine wp_region_lit ?_
 refine seg ha 1 [(2, .pointer (some ⟨g8, 0, none⟩)), (3, .pointer (some ⟨g3, 0 + 19, none⟩))] (by kernel_rfl) fun a ha => ?_
 refine ldA (cs := (cS_api_Addr a0.Group)) ha rfl (by kernel_rfl) rfl rfl rfl (cells_sub hE5 (all := (cS_api_Join a0)) [.string (bstr a0.Vrf), .string (bstr a0.Iface), .int .i64 a0.Source.Size, .int .u8 (ar a0.Source.B 0), .int .u8 (ar a0.Source.B 1), .int .u8 (ar a0.Source.B 2), .int .u8 (ar a0.Source.B 3), .int .u8 (ar a0.Source.B 4), .int .u8 (ar a0.Source.B 5), .int .u8 (ar a0.Source.B 6), .int .u8 (ar a0.Source.B 7), .int .u8 (ar a0.Source.B 8), .int .u8 (ar a0.Source.B 9), .int .u8 (ar a0.Source.B 10), .int .u8 (ar a0.Source.B 11), .int .u8 (ar a0.Source.B 12), .int .u8 (ar a0.Source.B 13), .int .u8 (ar a0.Source.B 14), .int .u8 (ar a0.Source.B 15)] [] (by kernel_rfl)) fun a ha => ?_
 refine stA (l := (cS_api_Addr a0.Group)) ha rfl rfl rfl (by kernel_rfl) rfl rfl hBg8 rfl fun a w12 ha hb2 hc13 _ => ?_
 have hM : MS ([g8] ++ (M)) w12 := (hM.chg hc13)
 have hC := hC.trans hc13 (fun x h => .inr (e_i10 x h))
 have hBg8 : Box w12 g8 (cS_api_Addr a0.Group) := hb2
 refine hK11 _ _ ?_; try clear hK11 K11
 refine wp_ret ?_
 try simp only [Exit.then, Exit.inBlock]
 have hM : MS (M) w12 := (fun x h => hM.chg (Chg.refl [] _) x (mr (h)))
 obtain rfl := Option.some.inj H
 refine rtr ha (res1 rfl (roA ha rfl hBg8 (by kernel_rfl))) ?_
 exact ⟨rfl, hC, hM⟩


def api_Addr_joins_Groups_1_joins_Groups_2_addr_Compare.l0 (a0 : List S_api_Join) (a4 : List UInt8) : Nat → (List S_api_Addr) → Int → Option (List S_api_Addr)
  | 0, _, _ => none
  | kk + 1, x8, x9 => (if (decide (x9 < (a0.length : Int))) = true then (if 0 ≤ x9 ∧ x9 < (a0.length : Int) then (joins_Groups_1.f (rd a0 x9) a4).bind fun t35 => (if t35 = true then (joins_Groups_2.f (rd a0 x9)).bind fun t37 => (if (x8.length + ([t37] : List S_api_Addr).length) * 24 ≤ 140737488355328 then api_Addr_joins_Groups_1_joins_Groups_2_addr_Compare.l0 a0 a4 kk (x8 ++ ([t37] : List S_api_Addr)) (IntKind.i64.wrap (x9 + (1 : Int))) else none) else api_Addr_joins_Groups_1_joins_Groups_2_addr_Compare.l0 a0 a4 kk x8 (IntKind.i64.wrap (x9 + (1 : Int)))) else none) else some (x8 : List S_api_Addr))
def api_Addr_joins_Groups_1_joins_Groups_2_addr_Compare.f (k : Nat) (a0 : List S_api_Join) (a4 : List UInt8) : Option (List S_api_Addr) := (api_Addr_joins_Groups_1_joins_Groups_2_addr_Compare.l0 a0 a4 k ([] : List S_api_Addr) (0 : Int)).bind fun s6 => (slices_SortA.f s6).bind fun t12 => (slices_CompA.f t12).bind fun t14 => some ((t14 : List S_api_Addr))
set_option maxRecDepth 100000 in
theorem api_Addr_joins_Groups_1_joins_Groups_2_addr_Compare.walk (w : World) (M : List Nat) (hM : MS M w) (a0 : List S_api_Join) (ao1 : Option Addr) (cap1 : Nat) (f1 : RSl rS_api_Join 38 w M ao1 cap1 a0) (gp4 : Nat) (a4 : List UInt8) (hBgp4 : Box w gp4 ([.string (bstr a4)] : List Value)) (hg_gp4 : gp4 ∈ M) (k : Nat) (r : List S_api_Addr) (H : api_Addr_joins_Groups_1_joins_Groups_2_addr_Compare.f k a0 a4 = some r) :
    To Tryz.prog 31 [.slice ao1 a0.length cap1, .func (.func 30) #[] #[.pointer (some ⟨gp4, 0, none⟩)], .func (.func 32) #[] #[], .func (.func 33) #[] #[]] w fun v w' => ∃ (ao46 : Option Addr) (cap46 : Nat), v = .slice ao46 r.length cap46 ∧ (Own rS_api_Addr 25 w' (blkL ao46 ++ (M)) ao46 cap46 r) ∧ (∀ x ∈ blkL ao46, w.heap.size ≤ x) ∧ Chg [] w w' ∧ MS (blkL ao46 ++ (M)) w' := by
 unfold api_Addr_joins_Groups_1_joins_Groups_2_addr_Compare.f at H
 refine ent Tryz.func31 rfl [(0, .slice ao1 a0.length cap1), (1, .func (.func 30) #[] #[.pointer (some ⟨gp4, 0, none⟩)]), (2, .func (.func 32) #[] #[]), (3, .func (.func 33) #[] #[])] rfl (by rfl) fun a ha => ?_
 have hC : Chg [] w w := Chg.refl _ _
 refine wp_seq_k fun K2 hK2 => ?_
 refine wp_region_lit ?_
 refine seg ha 1 [(0, .slice ao1 a0.length cap1), (1, .func (.func 30) #[] #[.pointer (some ⟨gp4, 0, none⟩)]), (2, .func (.func 32) #[] #[]), (3, .func (.func 33) #[] #[])] (by kernel_rfl) fun a ha => ?_
 refine hK2 _ _ ?_; try clear hK2 K2
 refine wp_seq_k fun K3 hK3 => ?_
 refine wp_region_lit ?_
 refine seg ha 1 [(0, .slice ao1 a0.length cap1), (1, .func (.func 30) #[] #[.pointer (some ⟨gp4, 0, none⟩)]), (2, .func (.func 32) #[] #[]), (3, .func (.func 33) #[] #[]), (9, .slice none 0 0)] (by kernel_rfl) fun a ha => ?_
 refine hK3 _ _ ?_; try clear hK3 K3
 refine wp_seq_k fun K4 hK4 => ?_
 refine wp_seq_k fun K5 hK5 => ?_
 refine wp_region_lit ?_
 refine seg ha 3 [(1, .func (.func 30) #[] #[.pointer (some ⟨gp4, 0, none⟩)]), (2, .func (.func 32) #[] #[]), (3, .func (.func 33) #[] #[]), (9, .slice none 0 0), (12, .slice ao1 a0.length cap1), (13, .int .i64 (a0.length : Int)), (14, .int .i64 (0 : Int))] (by kernel_rfl) fun a ha => ?_
 refine hK5 _ _ ?_; try clear hK5 K5
 refine wp_block ?_
 obtain ⟨s6, H6, H⟩ := bind_some H
 have J6 : ∀ (a : Act) (wx6 : World) (ao10 : Option Addr) (cap10 : Nat), Has a Tryz.f31.ntmps [(3, .func (.func 33) #[] #[]), (9, .slice ao10 s6.length cap10)] → (Own rS_api_Addr 25 wx6 (blkL ao10 ++ (M)) ao10 cap10 s6) → (Box wx6 gp4 ([.string (bstr a4)] : List Value)) → (∀ x ∈ blkL ao10, w.heap.size ≤ x) → (∀ x ∈ blkL ao10, x ∉ M) → (Chg [] w wx6) → (MS (blkL ao10 ++ (M)) wx6) → K4 a wx6 := by
  intro a wx6 ao10 cap10 ha f10 hBgp4 e_i10 p_i10_M hC hM
  refine hK4 _ _ ?_; try clear hK4 K4
  refine wp_seq_k fun K11 hK11 => ?_
  refine wp_region_lit ?_
  refine seg ha 2 [(9, .slice ao10 s6.length cap10), (28, .slice ao10 s6.length cap10), (29, .func (.func 33) #[] #[])] (by kernel_rfl) fun a ha => ?_
  obtain ⟨t12, H12, H⟩ := bind_some H
  refine cl ha (by rfl) (by kernel_rfl) (by rfl) (by rfl) (by rfl) (slices_SortA.walk wx6 _ hM s6 ao10 cap10 f10 _ H12) ?_
  rintro _ w12 ⟨rfl, len12, nf12, hc12, hMn⟩ a ha
  rw [← len12] at ha
  have o1 : Ok (blkL ao10) (blkL ao10 ++ (M)) wx6.heap.size := (fun _ h => .inl (ml h))
  have o2 : Ok (blkL ao10 ++ (M)) (blkL ao10 ++ (M)) wx6.heap.size := (Ok.refl _ _)
  have hBgp4 := hBgp4.chg hc12 ((fun x (hx : x ∈ [gp4]) (hy : x ∈ blkL ao10) => p_i10_M x hy (by rw [List.mem_singleton.1 hx]; exact hg_gp4)) gp4 (by simp))
  have hM : MS (blkL ao10 ++ (M)) w12 := (hM.chg hc12)
  have hC := hC.trans hc12 (fun x h => .inr (e_i10 x h))
  have f10 := nf12
  refine hK11 _ _ ?_; try clear hK11 K11
  refine wp_seq_k fun K13 hK13 => ?_
  refine wp_region_lit ?_
  refine seg ha 1 [(31, .slice ao10 t12.length cap10)] (by kernel_rfl) fun a ha => ?_
  obtain ⟨t14, H14, H⟩ := bind_some H
  refine cl ha (by rfl) (by kernel_rfl) (by rfl) (by rfl) (by rfl) (slices_CompA.walk w12 _ hM t12 ao10 cap10 f10 _ H14) ?_
  rintro _ w14 ⟨rfl, nf14, hc14, hMn⟩ a ha
  have o1 : Ok (blkL ao10) (blkL ao10 ++ (M)) w12.heap.size := (fun _ h => .inl (ml h))
  have o2 : Ok (blkL ao10 ++ (M)) (blkL ao10 ++ (M)) w12.heap.size := (Ok.refl _ _)
  have hBgp4 := hBgp4.chg hc14 ((fun x (hx : x ∈ [gp4]) (hy : x ∈ blkL ao10) => p_i10_M x hy (by rw [List.mem_singleton.1 hx]; exact hg_gp4)) gp4 (by simp))
  have hM : MS (blkL ao10 ++ (M)) w14 := (hM.chg hc14)
  have hC := hC.trans hc14 (fun x h => .inr (e_i10 x h))
  have f10 := nf14
  refine seg ha 1 [(8, .slice ao10 t14.length cap10)] (by kernel_rfl) fun a ha => ?_
  refine hK13 _ _ ?_; try clear hK13 K13
  refine wp_ret ?_
  try simp only [Exit.then, Exit.inBlock]
  obtain rfl := Option.some.inj H
  refine rt1 ha rfl rfl ?_
  exact ⟨ao10, cap10, rfl, f10, e_i10, hC, hM⟩
 have Hc6 := H
 have H := H6
 refine wp_loop_ghost (fun kk a w6 => ∃ (x8 : List S_api_Addr) (x9 : Int) (ao7 : Option Addr) (cap7 : Nat), api_Addr_joins_Groups_1_joins_Groups_2_addr_Compare.l0 a0 a4 kk x8 x9 = some s6 ∧ Has a Tryz.f31.ntmps [(1, .func (.func 30) #[] #[.pointer (some ⟨gp4, 0, none⟩)]), (2, .func (.func 32) #[] #[]), (3, .func (.func 33) #[] #[]), (9, .slice ao7 x8.length cap7), (12, .slice ao1 a0.length cap1), (13, .int .i64 (a0.length : Int)), (14, .int .i64 x9)] ∧ (Own rS_api_Addr 25 w6 (blkL ao7 ++ (M)) ao7 cap7 x8) ∧ (RSl rS_api_Join 38 w6 (blkL ao7 ++ (M)) ao1 cap1 a0) ∧ (Box w6 gp4 ([.string (bstr a4)] : List Value)) ∧ (∀ x ∈ blkL ao7, w.heap.size ≤ x) ∧ (∀ x ∈ blkL ao7, x ∉ M) ∧ (Chg [] w w6) ∧ (MS (blkL ao7 ++ (M)) w6)) k ?_ ?_
 ·skip
  have o1 : Ok [] (M) w.heap.size := Ok.nil _ _
  have o2 : Ok (blkL none ++ (M)) (M) w.heap.size := (Ok.app (fun _ h => nomatch h) (Ok.refl _ _))
  have f1 := f1.chg (Chg.refl [] _) o1 o2
  have p_z15_M : ∀ x ∈ blkL none, x ∉ M := fun x hx hy => absurd (hM x (hy)) (Nat.not_lt.2 ((fun _ h => nomatch h) x hx))
  have e_z15 : ∀ x ∈ blkL none, w.heap.size ≤ x := fun x hx => Nat.le_trans hC.size ((fun _ h => nomatch h) x hx)
  have hM : MS (blkL none ++ (M)) w := (MS.app (fun _ h => nomatch h) (hM.chg (Chg.refl [] _)))
  exact ⟨([] : List S_api_Addr), (0 : Int), none, 0, H, (ha.sel (by kernel_rfl)), Own.nil, f1, hBgp4, e_z15, p_z15_M, hC, hM⟩
 ·rintro kk a w6 ⟨x8, x9, ao7, cap7, H, ha, f7, f1, hBgp4, e_i7, p_i7_M, hC, hM⟩
  obtain _ | kk := kk
  ·exact nomatch (show none = some _ from H)
  rw [api_Addr_joins_Groups_1_joins_Groups_2_addr_Compare.l0] at H
  refine wp_seq_k fun K16 hK16 => ?_
  refine wp_region_lit ?_
  refine seg ha 1 [(1, .func (.func 30) #[] #[.pointer (some ⟨gp4, 0, none⟩)]), (2, .func (.func 32) #[] #[]), (3, .func (.func 33) #[] #[]), (9, .slice ao7 x8.length cap7), (12, .slice ao1 a0.length cap1), (13, .int .i64 (a0.length : Int)), (14, .int .i64 x9), (15, .bool (decide (x9 < (a0.length : Int))))] (by kernel_rfl) fun a ha => ?_
  refine hK16 _ _ ?_; try clear hK16 K16
  refine wp_seq_k fun K17 hK17 => ?_
  refine cnd ha rfl (fun hc18 => ?_) (fun hc18 => ?_)
  ·have H := ite_t hc18 H
   refine wp_skip ?_
   refine hK17 _ _ ?_; try clear hK17 K17
   refine wp_seq_k fun K19 hK19 => ?_
   refine wp_block ?_
   refine wp_seq_k fun K20 hK20 => ?_
   refine wp_region_lit ?_
   obtain ⟨⟨hx21, hx21'⟩, H⟩ := ite_some H
   refine ix (r := rS_api_Join) ha (by kernel_rfl) (by kernel_rfl) rfl rfl rfl rfl rfl f1 hx21 hx21' fun a ge22 oe23 cs24 hn27 hR25 hE26 ha => ?_
   rw [rd_get] at hR25
   obtain rfl := rS_api_Join.open hR25
   refine ldA (cs := (cS_api_Join (rd a0 x9))) ha rfl (by kernel_rfl) rfl rfl rfl (cells_sub hE26 (all := (cS_api_Join (rd a0 x9))) [] [] (by kernel_rfl)) fun a ha => ?_
   refine al (cs := (cS_api_Join (⟨([] : List UInt8), ([] : List UInt8), (⟨(0 : Int), (List.replicate 16 (0 : Int))⟩ : S_api_Addr), (⟨(0 : Int), (List.replicate 16 (0 : Int))⟩ : S_api_Addr)⟩ : S_api_Join))) (z := .agg (cS_api_Join (⟨([] : List UInt8), ([] : List UInt8), (⟨(0 : Int), (List.replicate 16 (0 : Int))⟩ : S_api_Addr), (⟨(0 : Int), (List.replicate 16 (0 : Int))⟩ : S_api_Addr)⟩ : S_api_Join)).toArray) ha (fun w => by kernel_rfl) rfl rfl rfl rfl fun a w28 g29 hN30 ha => ?_
   have o1 : Ok [] (blkL ao7 ++ (M)) w6.heap.size := Ok.nil _ _
   have o2 : Ok ([g29] ++ (blkL ao7 ++ (M))) (blkL ao7 ++ (M)) w6.heap.size := (Ok.app (hN30.ok _) (Ok.refl _ _))
   have f7 := f7.chg hN30.chg o1 o2 (fun _ _ h => nomatch h) (fun _ h => mr (ml h))
   have f1 := f1.chg hN30.chg o1 o2
   have hBgp4 := hBgp4.chg hN30.chg (fun h => nomatch h)
   have p_i31_i7 : ∀ x ∈ [g29], x ∉ (blkL ao7) := fun x hx hy => absurd (hM x (ml hy)) (Nat.not_lt.2 ((hN30.ge1) x hx))
   have p_i31_M : ∀ x ∈ [g29], x ∉ M := fun x hx hy => absurd (hM x (mr (hy))) (Nat.not_lt.2 ((hN30.ge1) x hx))
   have e_i31 : ∀ x ∈ [g29], w.heap.size ≤ x := fun x hx => Nat.le_trans hC.size ((hN30.ge1) x hx)
   have hM : MS ([g29] ++ (blkL ao7 ++ (M))) w28 := (MS.app hN30.ms (hM.chg hN30.chg))
   have hC := hC.trans hN30.chg (Ok.nil _ _)
   have hBg29 : Box w28 g29 (cS_api_Join (⟨([] : List UInt8), ([] : List UInt8), (⟨(0 : Int), (List.replicate 16 (0 : Int))⟩ : S_api_Addr), (⟨(0 : Int), (List.replicate 16 (0 : Int))⟩ : S_api_Addr)⟩ : S_api_Join)) := hN30.box
   refine stA (l := (cS_api_Join (rd a0 x9))) ha rfl rfl rfl (by kernel_rfl) rfl rfl hBg29 rfl fun a w32 ha hb2 hc33 _ => ?_
   have o1 : Ok [g29] ([g29] ++ (blkL ao7 ++ (M))) w28.heap.size := (fun _ h => .inl (ml h))
   have o2 : Ok ([g29] ++ (blkL ao7 ++ (M))) ([g29] ++ (blkL ao7 ++ (M))) w28.heap.size := (Ok.refl _ _)
   have f7 := f7.chg hc33 o1 o2 (fun x (hx : x ∈ blkL ao7) (hy : x ∈ [g29]) => p_i31_i7 x hy hx) (fun _ h => mr (ml h))
   have f1 := f1.chg hc33 o1 o2
   have hBgp4 := hBgp4.chg hc33 ((fun x (hx : x ∈ [gp4]) (hy : x ∈ [g29]) => p_i31_M x hy (by rw [List.mem_singleton.1 hx]; exact hg_gp4)) gp4 (by simp))
   have hM : MS ([g29] ++ (blkL ao7 ++ (M))) w32 := (hM.chg hc33)
   have hC := hC.trans hc33 (fun x h => .inr (e_i31 x h))
   have hBg29 : Box w32 g29 (cS_api_Join (rd a0 x9)) := hb2
   refine hK20 _ _ ?_; try clear hK20 K20
   refine wp_seq_k fun K34 hK34 => ?_
   refine wp_region_lit ?_
   refine seg ha 1 [(1, .func (.func 30) #[] #[.pointer (some ⟨gp4, 0, none⟩)]), (2, .func (.func 32) #[] #[]), (3, .func (.func 33) #[] #[]), (9, .slice ao7 x8.length cap7), (11, .pointer (some ⟨g29, 0, none⟩)), (12, .slice ao1 a0.length cap1), (13, .int .i64 (a0.length : Int)), (14, .int .i64 x9), (18, .func (.func 30) #[] #[.pointer (some ⟨gp4, 0, none⟩)])] (by kernel_rfl) fun a ha => ?_
   refine ldA (cs := (cS_api_Join (rd a0 x9))) ha rfl (by kernel_rfl) rfl rfl rfl (cells_sub (Box.cells hBg29) (all := (cS_api_Join (rd a0 x9))) [] [] (by kernel_rfl)) fun a ha => ?_
   obtain ⟨t35, H35, H⟩ := bind_some H
   refine clc (vals := [.agg (cS_api_Join (rd a0 x9)).toArray]) (cs := #[.pointer (some ⟨gp4, 0, none⟩)]) ha (by rfl) (by rfl) (by kernel_rfl) (by rfl) (by rfl) (by rfl) (joins_Groups_1.walk w32 _ hM (rd a0 x9) gp4 a4 hBgp4 (mr (mr (hg_gp4))) _ H35) ?_
   rintro _ w35 ⟨rfl, hc35, hMn⟩ a ha
   have o1 : Ok [] ([g29] ++ (blkL ao7 ++ (M))) w32.heap.size := Ok.nil _ _
   have o2 : Ok ([g29] ++ (blkL ao7 ++ (M))) ([g29] ++ (blkL ao7 ++ (M))) w32.heap.size := (Ok.refl _ _)
   have f7 := f7.chg hc35 o1 o2 (fun _ _ h => nomatch h) (fun _ h => mr (ml h))
   have f1 := f1.chg hc35 o1 o2
   have hBgp4 := hBgp4.chg hc35 (fun h => nomatch h)
   have hBg29 := hBg29.chg hc35 (fun h => nomatch h)
   have hM : MS ([g29] ++ (blkL ao7 ++ (M))) w35 := (hM.chg hc35)
   have hC := hC.trans hc35 (Ok.nil _ _)
   refine hK34 _ _ ?_; try clear hK34 K34
   refine cnd ha rfl (fun hc36 => ?_) (fun hc36 => ?_)
   ·have H := ite_t hc36 H
    refine wp_region_lit ?_
    refine seg ha 2 [(1, .func (.func 30) #[] #[.pointer (some ⟨gp4, 0, none⟩)]), (2, .func (.func 32) #[] #[]), (3, .func (.func 33) #[] #[]), (11, .pointer (some ⟨g29, 0, none⟩)), (12, .slice ao1 a0.length cap1), (13, .int .i64 (a0.length : Int)), (14, .int .i64 x9), (21, .slice ao7 x8.length cap7), (22, .func (.func 32) #[] #[])] (by kernel_rfl) fun a ha => ?_
    refine ldA (cs := (cS_api_Join (rd a0 x9))) ha rfl (by kernel_rfl) rfl rfl rfl (cells_sub (Box.cells hBg29) (all := (cS_api_Join (rd a0 x9))) [] [] (by kernel_rfl)) fun a ha => ?_
    obtain ⟨t37, H37, H⟩ := bind_some H
    refine clv ha (by rfl) (by rfl) (by kernel_rfl) (by rfl) (by rfl) (by rfl) (joins_Groups_2.walk w35 _ hM (rd a0 x9) _ H37) ?_
    rintro _ w37 ⟨rfl, hc37, hMn⟩ a ha
    have o1 : Ok [] ([g29] ++ (blkL ao7 ++ (M))) w35.heap.size := Ok.nil _ _
    have o2 : Ok ([g29] ++ (blkL ao7 ++ (M))) ([g29] ++ (blkL ao7 ++ (M))) w35.heap.size := (Ok.refl _ _)
    have f1 := f1.chg hc37 o1 o2
    have f7 := f7.chg hc37 o1 o2 (fun _ _ h => nomatch h) (fun _ h => mr (ml h))
    have hBgp4 := hBgp4.chg hc37 (fun h => nomatch h)
    have hBg29 := hBg29.chg hc37 (fun h => nomatch h)
    have hM : MS ([g29] ++ (blkL ao7 ++ (M))) w37 := (hM.chg hc37)
    have hC := hC.trans hc37 (Ok.nil _ _)
    refine bslA (vals := ([.agg (cS_api_Addr t37).toArray] : List Value)) (T := 25) (z := .agg (cS_api_Addr (⟨(0 : Int), (List.replicate 16 (0 : Int))⟩ : S_api_Addr)).toArray) ha rfl (by kernel_rfl) rfl (by kernel_rfl) (s := 17) (by kernel_rfl) rfl rfl (fun w => by kernel_rfl) (by kernel_rfl) rfl rfl rfl fun a w38 g39 hN40 ha => ?_
    have hN40 := (show New _ _ _ (.cells (((cS_api_Addr t37) ++ ([] : List Value))).toArray 25 (0, 0)) from hN40)
    have o1 : Ok [] ([g29] ++ (blkL ao7 ++ (M))) w37.heap.size := Ok.nil _ _
    have o2 : Ok ([g39] ++ ([g29] ++ (blkL ao7 ++ (M)))) ([g29] ++ (blkL ao7 ++ (M))) w37.heap.size := (Ok.app (hN40.ok _) (Ok.refl _ _))
    have f1 := f1.chg hN40.chg o1 o2
    have f7 := f7.chg hN40.chg o1 o2 (fun _ _ h => nomatch h) (fun _ h => mr (mr (ml h)))
    have hBgp4 := hBgp4.chg hN40.chg (fun h => nomatch h)
    have hBg29 := hBg29.chg hN40.chg (fun h => nomatch h)
    have p_i41_i31 : ∀ x ∈ [g39], x ∉ ([g29]) := fun x hx hy => absurd (hM x (ml hy)) (Nat.not_lt.2 ((hN40.ge1) x hx))
    have p_i41_i7 : ∀ x ∈ [g39], x ∉ (blkL ao7) := fun x hx hy => absurd (hM x (mr (ml hy))) (Nat.not_lt.2 ((hN40.ge1) x hx))
    have p_i41_M : ∀ x ∈ [g39], x ∉ M := fun x hx hy => absurd (hM x (mr (mr (hy)))) (Nat.not_lt.2 ((hN40.ge1) x hx))
    have e_i41 : ∀ x ∈ [g39], w.heap.size ≤ x := fun x hx => Nat.le_trans hC.size ((hN40.ge1) x hx)
    have hM : MS ([g39] ++ ([g29] ++ (blkL ao7 ++ (M)))) w38 := (MS.app hN40.ms (hM.chg hN40.chg))
    have hC := hC.trans hN40.chg (Ok.nil _ _)
    have f42 : Own rS_api_Addr 25 w38 ([g39] ++ ([g29] ++ (blkL ao7 ++ (M)))) (some ⟨g39, 0, none⟩) 1 ([t37] : List S_api_Addr) := hN40.own ⟨(cS_api_Addr t37), _, rfl, (rS_api_Addr.mk t37), rfl⟩ (Nat.le_of_ble_eq_true rfl)
    obtain ⟨hx43, H⟩ := ite_some H
    refine app (r := rS_api_Addr) (xs := x8) (ys := ([t37] : List S_api_Addr)) ha (ElemT.mk' (bytes := 24) (by kernel_rfl)) rfl rfl rfl rfl rfl f7 f42.src hx43 (by decide) fun a w44 ao45 cap45 hO45 hc45 hk45 hl45 ha => ?_
    have o1 : Ok (blkL ao7) ([g39] ++ ([g29] ++ (blkL ao7 ++ (M)))) w38.heap.size := (fun _ h => .inl (mr (mr (ml h))))
    have o2 : Ok (blkL ao45 ++ ([g39] ++ ([g29] ++ (M)))) ([g39] ++ ([g29] ++ (blkL ao7 ++ (M)))) w38.heap.size := (Ok.app (Ok.to hk45 (fun _ h => mr (mr (ml h)))) (Ok.app (fun _ h => .inl (ml h)) (Ok.app (fun _ h => .inl (mr (ml h))) (fun _ h => .inl (mr (mr (mr (h))))))))
    have f1 := f1.chg hc45 o1 o2
    have f42 := f42.chg hc45 o1 o2 p_i41_i7 (fun _ h => mr (ml h))
    have hBgp4 := hBgp4.chg hc45 ((fun x (hx : x ∈ [gp4]) (hy : x ∈ blkL ao7) => p_i7_M x hy (by rw [List.mem_singleton.1 hx]; exact hg_gp4)) gp4 (by simp))
    have hBg29 := hBg29.chg hc45 (p_i31_i7 g29 (by simp))
    have p_i45_i41 : ∀ x ∈ blkL ao45, x ∉ ([g39]) := fun x hx hy => (hk45 x hx).elim (fun h => (fun x hx hy => p_i41_i7 x hy hx) x h hy) (fun h => absurd (hM x (ml hy)) (Nat.not_lt.2 h))
    have p_i45_i31 : ∀ x ∈ blkL ao45, x ∉ ([g29]) := fun x hx hy => (hk45 x hx).elim (fun h => (fun x hx hy => p_i31_i7 x hy hx) x h hy) (fun h => absurd (hM x (mr (ml hy))) (Nat.not_lt.2 h))
    have p_i45_M : ∀ x ∈ blkL ao45, x ∉ M := fun x hx hy => (hk45 x hx).elim (fun h => p_i7_M x h hy) (fun h => absurd (hM x (mr (mr (mr (hy))))) (Nat.not_lt.2 h))
    have e_i45 : ∀ x ∈ blkL ao45, w.heap.size ≤ x := fun x hx => (hk45 x hx).elim (e_i7 x) (Nat.le_trans hC.size)
    have hM : MS (blkL ao45 ++ ([g39] ++ ([g29] ++ (M)))) w44 := (MS.app hl45 (MS.app (fun x h => hM.chg hc45 x (ml h)) (MS.app (fun x h => hM.chg hc45 x (mr (ml h))) (fun x h => hM.chg hc45 x (mr (mr (mr (h))))))))
    have hC := hC.trans hc45 (fun x h => .inr (e_i7 x h))
    have f45 := hO45.chg (M' := blkL ao45 ++ ([g39] ++ ([g29] ++ (M)))) (Chg.refl [] _) (Ok.nil _ _) (Ok.app (fun _ h => .inl (ml h)) (Ok.to (Ok.app (fun _ h => .inl (ml h)) (Ok.app (fun _ h => .inl (mr (ml h))) (fun _ h => .inl (mr (mr (mr (h))))))) (fun _ h => mr h))) (fun _ _ h => nomatch h) (fun _ h => ml h)
    refine seg ha 1 [(1, .func (.func 30) #[] #[.pointer (some ⟨gp4, 0, none⟩)]), (2, .func (.func 32) #[] #[]), (3, .func (.func 33) #[] #[]), (9, .slice ao45 (x8 ++ ([t37] : List S_api_Addr)).length cap45), (12, .slice ao1 a0.length cap1), (13, .int .i64 (a0.length : Int)), (14, .int .i64 x9)] (by kernel_rfl) fun a ha => ?_
    refine hK19 _ _ ?_; try clear hK19 K19
    refine wp_region_lit ?_
    refine seg ha 2 [(1, .func (.func 30) #[] #[.pointer (some ⟨gp4, 0, none⟩)]), (2, .func (.func 32) #[] #[]), (3, .func (.func 33) #[] #[]), (9, .slice ao45 (x8 ++ ([t37] : List S_api_Addr)).length cap45), (12, .slice ao1 a0.length cap1), (13, .int .i64 (a0.length : Int)), (14, .int .i64 (IntKind.i64.wrap (x9 + (1 : Int))))] (by kernel_rfl) fun a ha => ?_
    have o1 : Ok [] (blkL ao45 ++ ([g39] ++ ([g29] ++ (M)))) w44.heap.size := Ok.nil _ _
    have o2 : Ok (blkL ao45 ++ (M)) (blkL ao45 ++ ([g39] ++ ([g29] ++ (M)))) w44.heap.size := (Ok.app (fun _ h => .inl (ml h)) (fun _ h => .inl (mr (mr (mr (h))))))
    have f1 := f1.chg (Chg.refl [] _) o1 o2
    have f45 := f45.chg (Chg.refl [] _) o1 o2 (fun _ _ h => nomatch h) (fun _ h => ml h)
    have hM : MS (blkL ao45 ++ (M)) w44 := (MS.app (fun x h => hM.chg (Chg.refl [] _) x (ml h)) (fun x h => hM.chg (Chg.refl [] _) x (mr (mr (mr (h))))))
    exact ⟨kk, Nat.lt_succ_self _, ⟨(x8 ++ ([t37] : List S_api_Addr)), IntKind.i64.wrap (x9 + (1 : Int)), ao45, cap45, H, (ha.sel (by kernel_rfl)), f45, f1, hBgp4, e_i45, p_i45_M, hC, hM⟩⟩
   ·have H := ite_f hc36 H
    refine wp_skip ?_
    refine hK19 _ _ ?_; try clear hK19 K19
    refine wp_region_lit ?_
    refine seg ha 2 [(1, .func (.func 30) #[] #[.pointer (some ⟨gp4, 0, none⟩)]), (2, .func (.func 32) #[] #[]), (3, .func (.func 33) #[] #[]), (9, .slice ao7 x8.length cap7), (12, .slice ao1 a0.length cap1), (13, .int .i64 (a0.length : Int)), (14, .int .i64 (IntKind.i64.wrap (x9 + (1 : Int))))] (by kernel_rfl) fun a ha => ?_
    have o1 : Ok [] ([g29] ++ (blkL ao7 ++ (M))) w35.heap.size := Ok.nil _ _
    have o2 : Ok (blkL ao7 ++ (M)) ([g29] ++ (blkL ao7 ++ (M))) w35.heap.size := (fun _ h => .inl (mr (h)))
    have f7 := f7.chg (Chg.refl [] _) o1 o2 (fun _ _ h => nomatch h) (fun _ h => ml h)
    have f1 := f1.chg (Chg.refl [] _) o1 o2
    have hM : MS (blkL ao7 ++ (M)) w35 := (fun x h => hM.chg (Chg.refl [] _) x (mr (h)))
    exact ⟨kk, Nat.lt_succ_self _, ⟨x8, IntKind.i64.wrap (x9 + (1 : Int)), ao7, cap7, H, (ha.sel (by kernel_rfl)), f7, f1, hBgp4, e_i7, p_i7_M, hC, hM⟩⟩
  ·have H := ite_f hc18 H
   refine wp_exit ?_
   simp only [Exit.then, Exit.inBlock, ↓reduceIte, Nat.reduceEqDiff]
   obtain rfl := Option.some.inj H
   exact J6 _ _ ao7 cap7 (ha.sel (by kernel_rfl)) f7 hBgp4 e_i7 p_i7_M hC hM
def joins_Groups.f (k : Nat) (a0 : List S_api_Join) (a1 : List UInt8) : Option (List S_api_Addr) := (api_Addr_joins_Groups_1_joins_Groups_2_addr_Compare.f k a0 a1).bind fun t9 => some ((t9 : List S_api_Addr))
set_option maxRecDepth 100000 in
theorem joins_Groups.walk (w : World) (M : List Nat) (hM : MS M w) (a0 : List S_api_Join) (ao1 : Option Addr) (cap1 : Nat) (f1 : RSl rS_api_Join 38 w M ao1 cap1 a0) (a1 : List UInt8) (k : Nat) (r : List S_api_Addr) (H : joins_Groups.f k a0 a1 = some r) :
    To Tryz.prog 9 [.slice ao1 a0.length cap1, .string (bstr a1)] w fun v w' => ∃ (ao11 : Option Addr) (cap11 : Nat), v = .slice ao11 r.length cap11 ∧ (Own rS_api_Addr 25 w' (blkL ao11 ++ (M)) ao11 cap11 r) ∧ (∀ x ∈ blkL ao11, w.heap.size ≤ x) ∧ Chg [] w w' ∧ MS (blkL ao11 ++ (M)) w' := by
 unfold joins_Groups.f at H
 refine ent Tryz.func9 rfl [(0, .slice ao1 a0.length cap1), (1, .string (bstr a1))] rfl (by rfl) fun a ha => ?_
 have hC : Chg [] w w := Chg.refl _ _
 refine wp_seq_k fun K2 hK2 => ?_
 refine wp_region_lit ?_
 refine bx (cs := ([.string (bstr a1)] : List Value)) ha rfl rfl rfl rfl rfl fun a w3 g4 hN5 ha => ?_
 have o1 : Ok [] (M) w.heap.size := Ok.nil _ _
 have o2 : Ok ([g4] ++ (M)) (M) w.heap.size := (Ok.app (hN5.ok _) (Ok.refl _ _))
 have f1 := f1.chg hN5.chg o1 o2
 have p_i6_M : ∀ x ∈ [g4], x ∉ M := fun x hx hy => absurd (hM x (hy)) (Nat.not_lt.2 ((hN5.ge1) x hx))
 have e_i6 : ∀ x ∈ [g4], w.heap.size ≤ x := fun x hx => Nat.le_trans hC.size ((hN5.ge1) x hx)
 have hM : MS ([g4] ++ (M)) w3 := (MS.app hN5.ms (hM.chg hN5.chg))
 have hC := hC.trans hN5.chg (Ok.nil _ _)
 have hBg4 : Box w3 g4 ([.string (bstr a1)] : List Value) := hN5.box
 refine seg ha 1 [(0, .slice ao1 a0.length cap1), (3, .pointer (some ⟨g4, 0, none⟩))] (by kernel_rfl) fun a ha => ?_
 refine hK2 _ _ ?_; try clear hK2 K2
 refine wp_seq_k fun K7 hK7 => ?_
 refine wp_region_lit ?_
 refine opk (v := .func (.func 30) #[] #[.pointer (some ⟨g4, 0, none⟩)]) ha rfl rfl rfl rfl rfl (fun w => by kernel_rfl) fun a ha => ?_
 refine seg ha 1 [(0, .slice ao1 a0.length cap1), (5, .func (.func 30) #[] #[.pointer (some ⟨g4, 0, none⟩)])] (by kernel_rfl) fun a ha => ?_
 refine hK7 _ _ ?_; try clear hK7 K7
 refine wp_seq_k fun K8 hK8 => ?_
 refine wp_region_lit ?_
 refine seg ha 2 [(7, .slice ao1 a0.length cap1), (8, .func (.func 30) #[] #[.pointer (some ⟨g4, 0, none⟩)])] (by kernel_rfl) fun a ha => ?_
 obtain ⟨t9, H9, H⟩ := bind_some H
 refine cl ha (by rfl) (by kernel_rfl) (by rfl) (by rfl) (by rfl) (api_Addr_joins_Groups_1_joins_Groups_2_addr_Compare.walk w3 _ hM a0 ao1 cap1 f1 g4 a1 hBg4 (ml (List.mem_singleton.2 rfl)) k _ H9) ?_
 rintro _ w9 ⟨ao10, cap10, rfl, f10, ne_i10, hc9, hMn⟩ a ha
 have o1 : Ok [] ([g4] ++ (M)) w3.heap.size := Ok.nil _ _
 have o2 : Ok (blkL ao10 ++ ([g4] ++ (M))) ([g4] ++ (M)) w3.heap.size := (Ok.app (fun x h => .inr (ne_i10 x h)) (Ok.refl _ _))
 have f1 := f1.chg hc9 o1 o2
 have hBg4 := hBg4.chg hc9 (fun h => nomatch h)
 have p_i10_i6 : ∀ x ∈ blkL ao10, x ∉ ([g4]) := fun x hx hy => absurd (hM x (ml hy)) (Nat.not_lt.2 (ne_i10 x hx))
 have p_i10_M : ∀ x ∈ blkL ao10, x ∉ M := fun x hx hy => absurd (hM x (mr (hy))) (Nat.not_lt.2 (ne_i10 x hx))
 have e_i10 : ∀ x ∈ blkL ao10, w.heap.size ≤ x := fun x hx => Nat.le_trans hC.size (ne_i10 x hx)
 have hM : MS (blkL ao10 ++ ([g4] ++ (M))) w9 := (MS.app (fun x h => hMn x (ml h)) (hM.chg hc9))
 have hC := hC.trans hc9 (Ok.nil _ _)
 refine seg ha 1 [(4, .slice ao10 t9.length cap10)] (by kernel_rfl) fun a ha => ?_
 refine hK8 _ _ ?_; try clear hK8 K8
 refine wp_ret ?_
 try simp only [Exit.then, Exit.inBlock]
 have o1 : Ok [] (blkL ao10 ++ ([g4] ++ (M))) w9.heap.size := Ok.nil _ _
 have o2 : Ok (blkL ao10 ++ (M)) (blkL ao10 ++ ([g4] ++ (M))) w9.heap.size := (Ok.app (fun _ h => .inl (ml h)) (fun _ h => .inl (mr (mr (h)))))
 have f10 := f10.chg (Chg.refl [] _) o1 o2 (fun _ _ h => nomatch h) (fun _ h => ml h)
 have hM : MS (blkL ao10 ++ (M)) w9 := (MS.app (fun x h => hM.chg (Chg.refl [] _) x (ml h)) (fun x h => hM.chg (Chg.refl [] _) x (mr (mr (h)))))
 obtain rfl := Option.some.inj H
 refine rt1 ha rfl rfl ?_
 exact ⟨ao10, cap10, rfl, f10, e_i10, hC, hM⟩
def vinerylaw20_small.f (k : Nat) : Option (Bool) := (Jn_New.f ).bind fun t3 => (vinerylaw20_Of.f ([120] : List UInt8) (1 : Int) (1 : Int)).bind fun t8 => (Jn_Add.f k t3 t8).bind fun t9 => (vinerylaw20_Of.f ([121] : List UInt8) (0 : Int) (1 : Int)).bind fun t11 => (Jn_Add.f k t9.2 t11).bind fun t12 => (Jn_All.f t12.2).bind fun t14 => (vinerylaw07_V4.f (10 : Int) (1 : Int) (0 : Int) (1 : Int)).bind fun t15 => (vinerylaw07_V4.f (224 : Int) (0 : Int) (0 : Int) (1 : Int)).bind fun t16 => (joins_Ifaces.f k t14 (⟨([97] : List UInt8), t15, t16⟩ : S_api_Flow)).bind fun t17 => (Jn_All.f t12.2).bind fun t20 => (vinerylaw07_V4.f (10 : Int) (1 : Int) (0 : Int) (2 : Int)).bind fun t21 => (vinerylaw07_V4.f (224 : Int) (0 : Int) (0 : Int) (1 : Int)).bind fun t22 => (joins_Ifaces.f k t20 (⟨([97] : List UInt8), t21, t22⟩ : S_api_Flow)).bind fun t23 => (Jn_All.f t12.2).bind fun t26 => (joins_Groups.f k t26 ([97] : List UInt8)).bind fun t27 => ((if (t9.1 == (0 : Int)) = true then (if (t12.1 == (0 : Int)) = true then (if ((t17.length : Int) == (2 : Int)) = true then (if 0 ≤ (0 : Int) ∧ (0 : Int) < (t17.length : Int) then (if ((bstr (rd t17 (0 : Int))).toList == (bstr ([120] : List UInt8)).toList) = true then (if ((t23.length : Int) == (1 : Int)) = true then (if 0 ≤ (0 : Int) ∧ (0 : Int) < (t23.length : Int) then (if ((bstr (rd t23 (0 : Int))).toList == (bstr ([121] : List UInt8)).toList) = true then (if ((t27.length : Int) == (1 : Int)) = true then (vinerylaw20_Of.f ([88] : List UInt8) (0 : Int) (1 : Int)).bind fun t52 => (Jn_Add.f k t12.2 t52).bind fun t53 => some (t53.1 == (1 : Int) : Bool) else some (false : Bool)) else some (false : Bool)) else none) else some (false : Bool)) else some (false : Bool)) else none) else some (false : Bool)) else some (false : Bool)) else some (false : Bool))).bind fun s30 => some ((s30 : Bool))
set_option maxRecDepth 100000 in
theorem vinerylaw20_small.walk (w : World) (M : List Nat) (hM : MS M w)  (k : Nat) (r : Bool) (H : vinerylaw20_small.f k = some r) :
    To Tryz.prog 7 [] w fun v w' => v = .bool r ∧ Chg [] w w' ∧ MS (M) w' := by
 unfold vinerylaw20_small.f at H
 refine ent Tryz.func7 rfl [] rfl (by rfl) fun a ha => ?_
 have hC : Chg [] w w := Chg.refl _ _
 refine wp_seq_k fun K1 hK1 => ?_
 refine wp_region_lit ?_
 refine seg ha 1 [] (by kernel_rfl) fun a ha => ?_
 refine hK1 _ _ ?_; try clear hK1 K1
 refine wp_seq_k fun K2 hK2 => ?_
 refine wp_region_lit ?_
 obtain ⟨t3, H3, H⟩ := bind_some H
 refine cl ha (by rfl) (by kernel_rfl) (by rfl) (by rfl) (by rfl) (Jn_New.walk w _ hM  _ H3) ?_
 rintro _ w3 ⟨gO3, rfl, fO3, ne_i3, hc3, hMn⟩ a ha
 have p_i3_M : ∀ x ∈ ([gO3] ++ blkL none), x ∉ M := fun x hx hy => absurd (hM x (hy)) (Nat.not_lt.2 (ne_i3 x hx))
 have e_i3 : ∀ x ∈ ([gO3] ++ blkL none), w.heap.size ≤ x := fun x hx => Nat.le_trans hC.size (ne_i3 x hx)
 have hM : MS (([gO3] ++ blkL none) ++ (M)) w3 := (MS.app (fun x h => hMn x (ml h)) (hM.chg hc3))
 have hC := hC.trans hc3 (Ok.nil _ _)
 refine seg ha 1 [(1, .pointer (some ⟨gO3, 0, none⟩))] (by kernel_rfl) fun a ha => ?_
 refine hK2 _ _ ?_; try clear hK2 K2
 refine wp_seq_k fun K4 hK4 => ?_
 refine wp_seq_k fun K5 hK5 => ?_
 refine wp_region_lit ?_
 refine seg ha 2 [(1, .pointer (some ⟨gO3, 0, none⟩)), (9, .bool false)] (by kernel_rfl) fun a ha => ?_
 refine hK5 _ _ ?_; try clear hK5 K5
 refine cnd ha rfl (fun h => nomatch h) (fun _ => ?_)
 refine wp_skip ?_
 refine hK4 _ _ ?_; try clear hK4 K4
 refine wp_seq_k fun K7 hK7 => ?_
 refine wp_region_lit ?_
 refine seg ha 1 [(1, .pointer (some ⟨gO3, 0, none⟩)), (10, .pointer (some ⟨gO3, 0, none⟩))] (by kernel_rfl) fun a ha => ?_
 obtain ⟨t8, H8, H⟩ := bind_some H
 refine cl ha (by rfl) (by kernel_rfl) (by rfl) (by rfl) (by rfl) (vinerylaw20_Of.walk w3 _ hM ([120] : List UInt8) (1 : Int) (1 : Int) _ H8) ?_
 rintro _ w8 ⟨rfl, hc8, hMn⟩ a ha
 have fO3 := fO3.chg hc8 (fun _ _ h => nomatch h)
 have hM : MS (([gO3] ++ blkL none) ++ (M)) w8 := (hM.chg hc8)
 have hC := hC.trans hc8 (Ok.nil _ _)
 obtain ⟨t9, H9, H⟩ := bind_some H
 refine cl ha (by rfl) (by kernel_rfl) (by rfl) (by rfl) (by rfl) (Jn_Add.walk w8 _ hM gO3 none t3 fO3 (fun _ h => ml h) t8 k _ H9) ?_
 rintro _ w9 ⟨ao9, rfl, nf9, hc9, hk9, hl9⟩ a ha
 have p_i9_M : ∀ x ∈ ([gO3] ++ blkL ao9), x ∉ M := fun x hx hy => (hk9 x hx).elim (fun h => p_i3_M x h hy) (fun h => absurd (hM x (mr (hy))) (Nat.not_lt.2 h))
 have e_i9 : ∀ x ∈ ([gO3] ++ blkL ao9), w.heap.size ≤ x := fun x hx => (hk9 x hx).elim (e_i3 x) (Nat.le_trans hC.size)
 have hM : MS (([gO3] ++ blkL ao9) ++ (M)) w9 := (MS.app (fun x h => hl9 x (ml h)) (fun x h => hM.chg hc9 x (mr (h))))
 have hC := hC.trans hc9 (fun x h => .inr (e_i3 x h))
 have fO9 := nf9
 refine seg ha 1 [(1, .pointer (some ⟨gO3, 0, none⟩)), (2, .int .i64 t9.1)] (by kernel_rfl) fun a ha => ?_
 refine hK7 _ _ ?_; try clear hK7 K7
 refine wp_seq_k fun K10 hK10 => ?_
 refine wp_region_lit ?_
 refine seg ha 1 [(1, .pointer (some ⟨gO3, 0, none⟩)), (2, .int .i64 t9.1), (13, .pointer (some ⟨gO3, 0, none⟩))] (by kernel_rfl) fun a ha => ?_
 obtain ⟨t11, H11, H⟩ := bind_some H
 refine cl ha (by rfl) (by kernel_rfl) (by rfl) (by rfl) (by rfl) (vinerylaw20_Of.walk w9 _ hM ([121] : List UInt8) (0 : Int) (1 : Int) _ H11) ?_
 rintro _ w11 ⟨rfl, hc11, hMn⟩ a ha
 have fO9 := fO9.chg hc11 (fun _ _ h => nomatch h)
 have hM : MS (([gO3] ++ blkL ao9) ++ (M)) w11 := (hM.chg hc11)
 have hC := hC.trans hc11 (Ok.nil _ _)
 obtain ⟨t12, H12, H⟩ := bind_some H
 refine cl ha (by rfl) (by kernel_rfl) (by rfl) (by rfl) (by rfl) (Jn_Add.walk w11 _ hM gO3 ao9 t9.2 fO9 (fun _ h => ml h) t11 k _ H12) ?_
 rintro _ w12 ⟨ao12, rfl, nf12, hc12, hk12, hl12⟩ a ha
 have p_i12_M : ∀ x ∈ ([gO3] ++ blkL ao12), x ∉ M := fun x hx hy => (hk12 x hx).elim (fun h => p_i9_M x h hy) (fun h => absurd (hM x (mr (hy))) (Nat.not_lt.2 h))
 have e_i12 : ∀ x ∈ ([gO3] ++ blkL ao12), w.heap.size ≤ x := fun x hx => (hk12 x hx).elim (e_i9 x) (Nat.le_trans hC.size)
 have hM : MS (([gO3] ++ blkL ao12) ++ (M)) w12 := (MS.app (fun x h => hl12 x (ml h)) (fun x h => hM.chg hc12 x (mr (h))))
 have hC := hC.trans hc12 (fun x h => .inr (e_i9 x h))
 have fO12 := nf12
 refine seg ha 1 [(1, .pointer (some ⟨gO3, 0, none⟩)), (2, .int .i64 t9.1), (3, .int .i64 t12.1)] (by kernel_rfl) fun a ha => ?_
 refine hK10 _ _ ?_; try clear hK10 K10
 refine wp_seq_k fun K13 hK13 => ?_
 refine wp_region_lit ?_
 refine seg ha 1 [(1, .pointer (some ⟨gO3, 0, none⟩)), (2, .int .i64 t9.1), (3, .int .i64 t12.1), (16, .pointer (some ⟨gO3, 0, none⟩))] (by kernel_rfl) fun a ha => ?_
 obtain ⟨t14, H14, H⟩ := bind_some H
 refine cl ha (by rfl) (by kernel_rfl) (by rfl) (by rfl) (by rfl) (Jn_All.walk w12 _ hM gO3 ao12 t12.2 fO12 (fun _ h => ml h) _ H14) ?_
 rintro _ w14 ⟨ao14, cap14, rfl, f14, ne_i14, hc14, hMn⟩ a ha
 have fO12 := fO12.chg hc14 (fun _ _ h => nomatch h)
 have p_i14_i12 : ∀ x ∈ blkL ao14, x ∉ ([gO3] ++ blkL ao12) := fun x hx hy => absurd (hM x (ml hy)) (Nat.not_lt.2 (ne_i14 x hx))
 have p_i14_M : ∀ x ∈ blkL ao14, x ∉ M := fun x hx hy => absurd (hM x (mr (hy))) (Nat.not_lt.2 (ne_i14 x hx))
 have e_i14 : ∀ x ∈ blkL ao14, w.heap.size ≤ x := fun x hx => Nat.le_trans hC.size (ne_i14 x hx)
 have hM : MS (blkL ao14 ++ (([gO3] ++ blkL ao12) ++ (M))) w14 := (MS.app (fun x h => hMn x (ml h)) (hM.chg hc14))
 have hC := hC.trans hc14 (Ok.nil _ _)
 obtain ⟨t15, H15, H⟩ := bind_some H
 refine cl ha (by rfl) (by kernel_rfl) (by rfl) (by rfl) (by rfl) (vinerylaw07_V4.walk w14 _ hM (10 : Int) (1 : Int) (0 : Int) (1 : Int) _ H15) ?_
 rintro _ w15 ⟨rfl, hc15, hMn⟩ a ha
 have o1 : Ok [] (blkL ao14 ++ (([gO3] ++ blkL ao12) ++ (M))) w14.heap.size := Ok.nil _ _
 have o2 : Ok (blkL ao14 ++ (([gO3] ++ blkL ao12) ++ (M))) (blkL ao14 ++ (([gO3] ++ blkL ao12) ++ (M))) w14.heap.size := (Ok.refl _ _)
 have f14 := f14.chg hc15 o1 o2 (fun _ _ h => nomatch h) (fun _ h => ml h)
 have fO12 := fO12.chg hc15 (fun _ _ h => nomatch h)
 have hM : MS (blkL ao14 ++ (([gO3] ++ blkL ao12) ++ (M))) w15 := (hM.chg hc15)
 have hC := hC.trans hc15 (Ok.nil _ _)
 obtain ⟨t16, H16, H⟩ := bind_some H
 refine cl ha (by rfl) (by kernel_rfl) (by rfl) (by rfl) (by rfl) (vinerylaw07_V4.walk w15 _ hM (224 : Int) (0 : Int) (0 : Int) (1 : Int) _ H16) ?_
 rintro _ w16 ⟨rfl, hc16, hMn⟩ a ha
 have o1 : Ok [] (blkL ao14 ++ (([gO3] ++ blkL ao12) ++ (M))) w15.heap.size := Ok.nil _ _
 have o2 : Ok (blkL ao14 ++ (([gO3] ++ blkL ao12) ++ (M))) (blkL ao14 ++ (([gO3] ++ blkL ao12) ++ (M))) w15.heap.size := (Ok.refl _ _)
 have f14 := f14.chg hc16 o1 o2 (fun _ _ h => nomatch h) (fun _ h => ml h)
 have fO12 := fO12.chg hc16 (fun _ _ h => nomatch h)
 have hM : MS (blkL ao14 ++ (([gO3] ++ blkL ao12) ++ (M))) w16 := (hM.chg hc16)
 have hC := hC.trans hc16 (Ok.nil _ _)
 refine opk (v := .agg (cS_api_Flow (⟨([97] : List UInt8), t15, t16⟩ : S_api_Flow)).toArray) ha rfl rfl rfl rfl rfl (fun w => by kernel_rfl) fun a ha => ?_
 have hML : MS (([gO3] ++ blkL ao12) ++ (M)) w16 := MS.rest hM (fun _ h => (List.mem_append.1 h).elim (fun h => mr (ml h)) (fun h => mr (mr (h))))
 have oL : Ok (([gO3] ++ blkL ao12) ++ (M)) (blkL ao14 ++ (([gO3] ++ blkL ao12) ++ (M))) w16.heap.size := (fun _ h => .inl (mr (h)))
 obtain ⟨t17, H17, H⟩ := bind_some H
 refine cl ha (by rfl) (by kernel_rfl) (by rfl) (by rfl) (by rfl) (joins_Ifaces.walk w16 _ hML t14 ao14 cap14 (Own.toRSl (M' := ([gO3] ++ blkL ao12) ++ (M)) f14 oL (fun x hx hm => (List.mem_append.1 hm).elim (fun h => p_i14_i12 x hx h) (fun h => p_i14_M x hx h))) (⟨([97] : List UInt8), t15, t16⟩ : S_api_Flow) k _ H17) ?_
 rintro _ w17 ⟨ao18, cap18, rfl, f18, ne_i18, hc17, hMn⟩ a ha
 have o1 : Ok [] (blkL ao14 ++ (([gO3] ++ blkL ao12) ++ (M))) w16.heap.size := Ok.nil _ _
 have o2 : Ok (blkL ao18 ++ (blkL ao14 ++ (([gO3] ++ blkL ao12) ++ (M)))) (blkL ao14 ++ (([gO3] ++ blkL ao12) ++ (M))) w16.heap.size := (Ok.app (fun x h => .inr (ne_i18 x h)) (Ok.refl _ _))
 have f14 := f14.chg hc17 o1 o2 (fun _ _ h => nomatch h) (fun _ h => mr (ml h))
 have fO12 := fO12.chg hc17 (fun _ _ h => nomatch h)
 have p_i18_i14 : ∀ x ∈ blkL ao18, x ∉ (blkL ao14) := fun x hx hy => absurd (hM x (ml hy)) (Nat.not_lt.2 (ne_i18 x hx))
 have p_i18_i12 : ∀ x ∈ blkL ao18, x ∉ ([gO3] ++ blkL ao12) := fun x hx hy => absurd (hM x (mr (ml hy))) (Nat.not_lt.2 (ne_i18 x hx))
 have p_i18_M : ∀ x ∈ blkL ao18, x ∉ M := fun x hx hy => absurd (hM x (mr (mr (hy)))) (Nat.not_lt.2 (ne_i18 x hx))
 have e_i18 : ∀ x ∈ blkL ao18, w.heap.size ≤ x := fun x hx => Nat.le_trans hC.size (ne_i18 x hx)
 have hM : MS (blkL ao18 ++ (blkL ao14 ++ (([gO3] ++ blkL ao12) ++ (M)))) w17 := (MS.app (fun x h => hMn x (ml h)) (hM.chg hc17))
 have hC := hC.trans hc17 (Ok.nil _ _)
 have f18 := Own.re (M' := blkL ao18 ++ (blkL ao14 ++ (([gO3] ++ blkL ao12) ++ (M)))) (fun _ _ _ _ _ h => h) f18 (fun _ h => ml h)
 refine seg ha 1 [(1, .pointer (some ⟨gO3, 0, none⟩)), (2, .int .i64 t9.1), (3, .int .i64 t12.1), (4, .slice ao18 t17.length cap18)] (by kernel_rfl) fun a ha => ?_
 refine hK13 _ _ ?_; try clear hK13 K13
 refine wp_seq_k fun K19 hK19 => ?_
 refine wp_region_lit ?_
 refine seg ha 1 [(1, .pointer (some ⟨gO3, 0, none⟩)), (2, .int .i64 t9.1), (3, .int .i64 t12.1), (4, .slice ao18 t17.length cap18), (22, .pointer (some ⟨gO3, 0, none⟩))] (by kernel_rfl) fun a ha => ?_
 obtain ⟨t20, H20, H⟩ := bind_some H
 refine cl ha (by rfl) (by kernel_rfl) (by rfl) (by rfl) (by rfl) (Jn_All.walk w17 _ hM gO3 ao12 t12.2 fO12 (fun _ h => mr (mr (ml h))) _ H20) ?_
 rintro _ w20 ⟨ao20, cap20, rfl, f20, ne_i20, hc20, hMn⟩ a ha
 have o1 : Ok [] (blkL ao18 ++ (blkL ao14 ++ (([gO3] ++ blkL ao12) ++ (M)))) w17.heap.size := Ok.nil _ _
 have o2 : Ok (blkL ao20 ++ (blkL ao18 ++ (blkL ao14 ++ (([gO3] ++ blkL ao12) ++ (M))))) (blkL ao18 ++ (blkL ao14 ++ (([gO3] ++ blkL ao12) ++ (M)))) w17.heap.size := (Ok.app (fun x h => .inr (ne_i20 x h)) (Ok.refl _ _))
 have f18 := f18.chg hc20 o1 o2 (fun _ _ h => nomatch h) (fun _ h => mr (ml h))
 have fO12 := fO12.chg hc20 (fun _ _ h => nomatch h)
 have p_i20_i18 : ∀ x ∈ blkL ao20, x ∉ (blkL ao18) := fun x hx hy => absurd (hM x (ml hy)) (Nat.not_lt.2 (ne_i20 x hx))
 have p_i20_i14 : ∀ x ∈ blkL ao20, x ∉ (blkL ao14) := fun x hx hy => absurd (hM x (mr (ml hy))) (Nat.not_lt.2 (ne_i20 x hx))
 have p_i20_i12 : ∀ x ∈ blkL ao20, x ∉ ([gO3] ++ blkL ao12) := fun x hx hy => absurd (hM x (mr (mr (ml hy)))) (Nat.not_lt.2 (ne_i20 x hx))
 have p_i20_M : ∀ x ∈ blkL ao20, x ∉ M := fun x hx hy => absurd (hM x (mr (mr (mr (hy))))) (Nat.not_lt.2 (ne_i20 x hx))
 have e_i20 : ∀ x ∈ blkL ao20, w.heap.size ≤ x := fun x hx => Nat.le_trans hC.size (ne_i20 x hx)
 have hM : MS (blkL ao20 ++ (blkL ao18 ++ (blkL ao14 ++ (([gO3] ++ blkL ao12) ++ (M))))) w20 := (MS.app (fun x h => hMn x (ml h)) (hM.chg hc20))
 have hC := hC.trans hc20 (Ok.nil _ _)
 obtain ⟨t21, H21, H⟩ := bind_some H
 refine cl ha (by rfl) (by kernel_rfl) (by rfl) (by rfl) (by rfl) (vinerylaw07_V4.walk w20 _ hM (10 : Int) (1 : Int) (0 : Int) (2 : Int) _ H21) ?_
 rintro _ w21 ⟨rfl, hc21, hMn⟩ a ha
 have o1 : Ok [] (blkL ao20 ++ (blkL ao18 ++ (blkL ao14 ++ (([gO3] ++ blkL ao12) ++ (M))))) w20.heap.size := Ok.nil _ _
 have o2 : Ok (blkL ao20 ++ (blkL ao18 ++ (blkL ao14 ++ (([gO3] ++ blkL ao12) ++ (M))))) (blkL ao20 ++ (blkL ao18 ++ (blkL ao14 ++ (([gO3] ++ blkL ao12) ++ (M))))) w20.heap.size := (Ok.refl _ _)
 have f18 := f18.chg hc21 o1 o2 (fun _ _ h => nomatch h) (fun _ h => mr (ml h))
 have f20 := f20.chg hc21 o1 o2 (fun _ _ h => nomatch h) (fun _ h => ml h)
 have fO12 := fO12.chg hc21 (fun _ _ h => nomatch h)
 have hM : MS (blkL ao20 ++ (blkL ao18 ++ (blkL ao14 ++ (([gO3] ++ blkL ao12) ++ (M))))) w21 := (hM.chg hc21)
 have hC := hC.trans hc21 (Ok.nil _ _)
 obtain ⟨t22, H22, H⟩ := bind_some H
 refine cl ha (by rfl) (by kernel_rfl) (by rfl) (by rfl) (by rfl) (vinerylaw07_V4.walk w21 _ hM (224 : Int) (0 : Int) (0 : Int) (1 : Int) _ H22) ?_
 rintro _ w22 ⟨rfl, hc22, hMn⟩ a ha
 have o1 : Ok [] (blkL ao20 ++ (blkL ao18 ++ (blkL ao14 ++ (([gO3] ++ blkL ao12) ++ (M))))) w21.heap.size := Ok.nil _ _
 have o2 : Ok (blkL ao20 ++ (blkL ao18 ++ (blkL ao14 ++ (([gO3] ++ blkL ao12) ++ (M))))) (blkL ao20 ++ (blkL ao18 ++ (blkL ao14 ++ (([gO3] ++ blkL ao12) ++ (M))))) w21.heap.size := (Ok.refl _ _)
 have f18 := f18.chg hc22 o1 o2 (fun _ _ h => nomatch h) (fun _ h => mr (ml h))
 have f20 := f20.chg hc22 o1 o2 (fun _ _ h => nomatch h) (fun _ h => ml h)
 have fO12 := fO12.chg hc22 (fun _ _ h => nomatch h)
 have hM : MS (blkL ao20 ++ (blkL ao18 ++ (blkL ao14 ++ (([gO3] ++ blkL ao12) ++ (M))))) w22 := (hM.chg hc22)
 have hC := hC.trans hc22 (Ok.nil _ _)
 refine opk (v := .agg (cS_api_Flow (⟨([97] : List UInt8), t21, t22⟩ : S_api_Flow)).toArray) ha rfl rfl rfl rfl rfl (fun w => by kernel_rfl) fun a ha => ?_
 have hML : MS (blkL ao18 ++ (blkL ao14 ++ (([gO3] ++ blkL ao12) ++ (M)))) w22 := MS.rest hM (fun _ h => (List.mem_append.1 h).elim (fun h => mr (ml h)) (fun h => (List.mem_append.1 h).elim (fun h => mr (mr (ml h))) (fun h => (List.mem_append.1 h).elim (fun h => mr (mr (mr (ml h)))) (fun h => mr (mr (mr (mr (h))))))))
 have oL : Ok (blkL ao18 ++ (blkL ao14 ++ (([gO3] ++ blkL ao12) ++ (M)))) (blkL ao20 ++ (blkL ao18 ++ (blkL ao14 ++ (([gO3] ++ blkL ao12) ++ (M))))) w22.heap.size := (fun _ h => .inl (mr (h)))
 obtain ⟨t23, H23, H⟩ := bind_some H
 refine cl ha (by rfl) (by kernel_rfl) (by rfl) (by rfl) (by rfl) (joins_Ifaces.walk w22 _ hML t20 ao20 cap20 (Own.toRSl (M' := blkL ao18 ++ (blkL ao14 ++ (([gO3] ++ blkL ao12) ++ (M)))) f20 oL (fun x hx hm => (List.mem_append.1 hm).elim (fun h => p_i20_i18 x hx h) (fun h => (List.mem_append.1 h).elim (fun h => p_i20_i14 x hx h) (fun h => (List.mem_append.1 h).elim (fun h => p_i20_i12 x hx h) (fun h => p_i20_M x hx h))))) (⟨([97] : List UInt8), t21, t22⟩ : S_api_Flow) k _ H23) ?_
 rintro _ w23 ⟨ao24, cap24, rfl, f24, ne_i24, hc23, hMn⟩ a ha
 have o1 : Ok [] (blkL ao20 ++ (blkL ao18 ++ (blkL ao14 ++ (([gO3] ++ blkL ao12) ++ (M))))) w22.heap.size := Ok.nil _ _
 have o2 : Ok (blkL ao24 ++ (blkL ao20 ++ (blkL ao18 ++ (blkL ao14 ++ (([gO3] ++ blkL ao12) ++ (M)))))) (blkL ao20 ++ (blkL ao18 ++ (blkL ao14 ++ (([gO3] ++ blkL ao12) ++ (M))))) w22.heap.size := (Ok.app (fun x h => .inr (ne_i24 x h)) (Ok.refl _ _))
 have f18 := f18.chg hc23 o1 o2 (fun _ _ h => nomatch h) (fun _ h => mr (mr (ml h)))
 have f20 := f20.chg hc23 o1 o2 (fun _ _ h => nomatch h) (fun _ h => mr (ml h))
 have fO12 := fO12.chg hc23 (fun _ _ h => nomatch h)
 have p_i24_i20 : ∀ x ∈ blkL ao24, x ∉ (blkL ao20) := fun x hx hy => absurd (hM x (ml hy)) (Nat.not_lt.2 (ne_i24 x hx))
 have p_i24_i18 : ∀ x ∈ blkL ao24, x ∉ (blkL ao18) := fun x hx hy => absurd (hM x (mr (ml hy))) (Nat.not_lt.2 (ne_i24 x hx))
 have p_i24_i14 : ∀ x ∈ blkL ao24, x ∉ (blkL ao14) := fun x hx hy => absurd (hM x (mr (mr (ml hy)))) (Nat.not_lt.2 (ne_i24 x hx))
 have p_i24_i12 : ∀ x ∈ blkL ao24, x ∉ ([gO3] ++ blkL ao12) := fun x hx hy => absurd (hM x (mr (mr (mr (ml hy))))) (Nat.not_lt.2 (ne_i24 x hx))
 have p_i24_M : ∀ x ∈ blkL ao24, x ∉ M := fun x hx hy => absurd (hM x (mr (mr (mr (mr (hy)))))) (Nat.not_lt.2 (ne_i24 x hx))
 have e_i24 : ∀ x ∈ blkL ao24, w.heap.size ≤ x := fun x hx => Nat.le_trans hC.size (ne_i24 x hx)
 have hM : MS (blkL ao24 ++ (blkL ao20 ++ (blkL ao18 ++ (blkL ao14 ++ (([gO3] ++ blkL ao12) ++ (M)))))) w23 := (MS.app (fun x h => hMn x (ml h)) (hM.chg hc23))
 have hC := hC.trans hc23 (Ok.nil _ _)
 have f24 := Own.re (M' := blkL ao24 ++ (blkL ao20 ++ (blkL ao18 ++ (blkL ao14 ++ (([gO3] ++ blkL ao12) ++ (M)))))) (fun _ _ _ _ _ h => h) f24 (fun _ h => ml h)
 refine seg ha 1 [(1, .pointer (some ⟨gO3, 0, none⟩)), (2, .int .i64 t9.1), (3, .int .i64 t12.1), (4, .slice ao18 t17.length cap18), (5, .slice ao24 t23.length cap24)] (by kernel_rfl) fun a ha => ?_
 refine hK19 _ _ ?_; try clear hK19 K19
 refine wp_seq_k fun K25 hK25 => ?_
 refine wp_region_lit ?_
 refine seg ha 1 [(1, .pointer (some ⟨gO3, 0, none⟩)), (2, .int .i64 t9.1), (3, .int .i64 t12.1), (4, .slice ao18 t17.length cap18), (5, .slice ao24 t23.length cap24), (28, .pointer (some ⟨gO3, 0, none⟩))] (by kernel_rfl) fun a ha => ?_
 obtain ⟨t26, H26, H⟩ := bind_some H
 refine cl ha (by rfl) (by kernel_rfl) (by rfl) (by rfl) (by rfl) (Jn_All.walk w23 _ hM gO3 ao12 t12.2 fO12 (fun _ h => mr (mr (mr (mr (ml h))))) _ H26) ?_
 rintro _ w26 ⟨ao26, cap26, rfl, f26, ne_i26, hc26, hMn⟩ a ha
 have o1 : Ok [] (blkL ao24 ++ (blkL ao20 ++ (blkL ao18 ++ (blkL ao14 ++ (([gO3] ++ blkL ao12) ++ (M)))))) w23.heap.size := Ok.nil _ _
 have o2 : Ok (blkL ao26 ++ (blkL ao24 ++ (blkL ao20 ++ (blkL ao18 ++ (blkL ao14 ++ (([gO3] ++ blkL ao12) ++ (M))))))) (blkL ao24 ++ (blkL ao20 ++ (blkL ao18 ++ (blkL ao14 ++ (([gO3] ++ blkL ao12) ++ (M)))))) w23.heap.size := (Ok.app (fun x h => .inr (ne_i26 x h)) (Ok.refl _ _))
 have f18 := f18.chg hc26 o1 o2 (fun _ _ h => nomatch h) (fun _ h => mr (mr (mr (ml h))))
 have f24 := f24.chg hc26 o1 o2 (fun _ _ h => nomatch h) (fun _ h => mr (ml h))
 have fO12 := fO12.chg hc26 (fun _ _ h => nomatch h)
 have p_i26_i24 : ∀ x ∈ blkL ao26, x ∉ (blkL ao24) := fun x hx hy => absurd (hM x (ml hy)) (Nat.not_lt.2 (ne_i26 x hx))
 have p_i26_i20 : ∀ x ∈ blkL ao26, x ∉ (blkL ao20) := fun x hx hy => absurd (hM x (mr (ml hy))) (Nat.not_lt.2 (ne_i26 x hx))
 have p_i26_i18 : ∀ x ∈ blkL ao26, x ∉ (blkL ao18) := fun x hx hy => absurd (hM x (mr (mr (ml hy)))) (Nat.not_lt.2 (ne_i26 x hx))
 have p_i26_i14 : ∀ x ∈ blkL ao26, x ∉ (blkL ao14) := fun x hx hy => absurd (hM x (mr (mr (mr (ml hy))))) (Nat.not_lt.2 (ne_i26 x hx))
 have p_i26_i12 : ∀ x ∈ blkL ao26, x ∉ ([gO3] ++ blkL ao12) := fun x hx hy => absurd (hM x (mr (mr (mr (mr (ml hy)))))) (Nat.not_lt.2 (ne_i26 x hx))
 have p_i26_M : ∀ x ∈ blkL ao26, x ∉ M := fun x hx hy => absurd (hM x (mr (mr (mr (mr (mr (hy))))))) (Nat.not_lt.2 (ne_i26 x hx))
 have e_i26 : ∀ x ∈ blkL ao26, w.heap.size ≤ x := fun x hx => Nat.le_trans hC.size (ne_i26 x hx)
 have hM : MS (blkL ao26 ++ (blkL ao24 ++ (blkL ao20 ++ (blkL ao18 ++ (blkL ao14 ++ (([gO3] ++ blkL ao12) ++ (M))))))) w26 := (MS.app (fun x h => hMn x (ml h)) (hM.chg hc26))
 have hC := hC.trans hc26 (Ok.nil _ _)
 have hML : MS (blkL ao24 ++ (blkL ao20 ++ (blkL ao18 ++ (blkL ao14 ++ (([gO3] ++ blkL ao12) ++ (M)))))) w26 := MS.rest hM (fun _ h => (List.mem_append.1 h).elim (fun h => mr (ml h)) (fun h => (List.mem_append.1 h).elim (fun h => mr (mr (ml h))) (fun h => (List.mem_append.1 h).elim (fun h => mr (mr (mr (ml h)))) (fun h => (List.mem_append.1 h).elim (fun h => mr (mr (mr (mr (ml h))))) (fun h => (List.mem_append.1 h).elim (fun h => mr (mr (mr (mr (mr (ml h)))))) (fun h => mr (mr (mr (mr (mr (mr (h))))))))))))
 have oL : Ok (blkL ao24 ++ (blkL ao20 ++ (blkL ao18 ++ (blkL ao14 ++ (([gO3] ++ blkL ao12) ++ (M)))))) (blkL ao26 ++ (blkL ao24 ++ (blkL ao20 ++ (blkL ao18 ++ (blkL ao14 ++ (([gO3] ++ blkL ao12) ++ (M))))))) w26.heap.size := (fun _ h => .inl (mr (h)))
 obtain ⟨t27, H27, H⟩ := bind_some H
 refine cl ha (by rfl) (by kernel_rfl) (by rfl) (by rfl) (by rfl) (joins_Groups.walk w26 _ hML t26 ao26 cap26 (Own.toRSl (M' := blkL ao24 ++ (blkL ao20 ++ (blkL ao18 ++ (blkL ao14 ++ (([gO3] ++ blkL ao12) ++ (M)))))) f26 oL (fun x hx hm => (List.mem_append.1 hm).elim (fun h => p_i26_i24 x hx h) (fun h => (List.mem_append.1 h).elim (fun h => p_i26_i20 x hx h) (fun h => (List.mem_append.1 h).elim (fun h => p_i26_i18 x hx h) (fun h => (List.mem_append.1 h).elim (fun h => p_i26_i14 x hx h) (fun h => (List.mem_append.1 h).elim (fun h => p_i26_i12 x hx h) (fun h => p_i26_M x hx h))))))) ([97] : List UInt8) k _ H27) ?_
 rintro _ w27 ⟨ao28, cap28, rfl, f28, ne_i28, hc27, hMn⟩ a ha
 have o1 : Ok [] (blkL ao26 ++ (blkL ao24 ++ (blkL ao20 ++ (blkL ao18 ++ (blkL ao14 ++ (([gO3] ++ blkL ao12) ++ (M))))))) w26.heap.size := Ok.nil _ _
 have o2 : Ok (blkL ao28 ++ (blkL ao26 ++ (blkL ao24 ++ (blkL ao20 ++ (blkL ao18 ++ (blkL ao14 ++ (([gO3] ++ blkL ao12) ++ (M)))))))) (blkL ao26 ++ (blkL ao24 ++ (blkL ao20 ++ (blkL ao18 ++ (blkL ao14 ++ (([gO3] ++ blkL ao12) ++ (M))))))) w26.heap.size := (Ok.app (fun x h => .inr (ne_i28 x h)) (Ok.refl _ _))
 have f18 := f18.chg hc27 o1 o2 (fun _ _ h => nomatch h) (fun _ h => mr (mr (mr (mr (ml h)))))
 have f24 := f24.chg hc27 o1 o2 (fun _ _ h => nomatch h) (fun _ h => mr (mr (ml h)))
 have f26 := f26.chg hc27 o1 o2 (fun _ _ h => nomatch h) (fun _ h => mr (ml h))
 have fO12 := fO12.chg hc27 (fun _ _ h => nomatch h)
 have p_i28_i26 : ∀ x ∈ blkL ao28, x ∉ (blkL ao26) := fun x hx hy => absurd (hM x (ml hy)) (Nat.not_lt.2 (ne_i28 x hx))
 have p_i28_i24 : ∀ x ∈ blkL ao28, x ∉ (blkL ao24) := fun x hx hy => absurd (hM x (mr (ml hy))) (Nat.not_lt.2 (ne_i28 x hx))
 have p_i28_i20 : ∀ x ∈ blkL ao28, x ∉ (blkL ao20) := fun x hx hy => absurd (hM x (mr (mr (ml hy)))) (Nat.not_lt.2 (ne_i28 x hx))
 have p_i28_i18 : ∀ x ∈ blkL ao28, x ∉ (blkL ao18) := fun x hx hy => absurd (hM x (mr (mr (mr (ml hy))))) (Nat.not_lt.2 (ne_i28 x hx))
 have p_i28_i14 : ∀ x ∈ blkL ao28, x ∉ (blkL ao14) := fun x hx hy => absurd (hM x (mr (mr (mr (mr (ml hy)))))) (Nat.not_lt.2 (ne_i28 x hx))
 have p_i28_i12 : ∀ x ∈ blkL ao28, x ∉ ([gO3] ++ blkL ao12) := fun x hx hy => absurd (hM x (mr (mr (mr (mr (mr (ml hy))))))) (Nat.not_lt.2 (ne_i28 x hx))
 have p_i28_M : ∀ x ∈ blkL ao28, x ∉ M := fun x hx hy => absurd (hM x (mr (mr (mr (mr (mr (mr (hy)))))))) (Nat.not_lt.2 (ne_i28 x hx))
 have e_i28 : ∀ x ∈ blkL ao28, w.heap.size ≤ x := fun x hx => Nat.le_trans hC.size (ne_i28 x hx)
 have hM : MS (blkL ao28 ++ (blkL ao26 ++ (blkL ao24 ++ (blkL ao20 ++ (blkL ao18 ++ (blkL ao14 ++ (([gO3] ++ blkL ao12) ++ (M)))))))) w27 := (MS.app (fun x h => hMn x (ml h)) (hM.chg hc27))
 have hC := hC.trans hc27 (Ok.nil _ _)
 have f28 := Own.re (M' := blkL ao28 ++ (blkL ao26 ++ (blkL ao24 ++ (blkL ao20 ++ (blkL ao18 ++ (blkL ao14 ++ (([gO3] ++ blkL ao12) ++ (M)))))))) (fun _ _ _ _ _ h => h) f28 (fun _ h => ml h)
 refine seg ha 1 [(1, .pointer (some ⟨gO3, 0, none⟩)), (2, .int .i64 t9.1), (3, .int .i64 t12.1), (4, .slice ao18 t17.length cap18), (5, .slice ao24 t23.length cap24), (6, .slice ao28 t27.length cap28)] (by kernel_rfl) fun a ha => ?_
 refine hK25 _ _ ?_; try clear hK25 K25
 refine wp_seq_k fun K29 hK29 => ?_
 refine wp_region_lit ?_
 obtain ⟨s30, H30, H⟩ := bind_some H
 have J30 : ∀ (a : Act) (w30 : World), Has a Tryz.f7.ntmps [(0, .bool s30)] → (Chg [] w w30) → (MS (M) w30) → K29 a w30 := by
  intro a w30 ha hC hM
  refine hK29 _ _ ?_; try clear hK29 K29
  refine wp_ret ?_
  try simp only [Exit.then, Exit.inBlock]
  obtain rfl := Option.some.inj H
  refine rt1 ha rfl rfl ?_
  exact ⟨rfl, hC, hM⟩
 have H := H30
 refine seg ha 3 [(33, .bool (t9.1 == (0 : Int))), (1, .pointer (some ⟨gO3, 0, none⟩)), (3, .int .i64 t12.1), (4, .slice ao18 t17.length cap18), (5, .slice ao24 t23.length cap24), (6, .slice ao28 t27.length cap28)] (by kernel_rfl) fun a ha => ?_
 rcases Bool.eq_false_or_eq_true (t9.1 == (0 : Int)) with hb31 | hb31
 ·have ha := ha.lit hb31
  have H := ite_t hb31 H
  refine sgh ha 4 [2, 2, 3, 0] [(37, .bool (t12.1 == (0 : Int))), (1, .pointer (some ⟨gO3, 0, none⟩)), (4, .slice ao18 t17.length cap18), (5, .slice ao24 t23.length cap24), (6, .slice ao28 t27.length cap28)] (by kernel_rfl) fun a ha => ?_
  rcases Bool.eq_false_or_eq_true (t12.1 == (0 : Int)) with hb32 | hb32
  ·have ha := ha.lit hb32
   have H := ite_t hb32 H
   refine sgh ha 5 [2, 2, 2, 3, 0] [(42, .bool ((t17.length : Int) == (2 : Int))), (1, .pointer (some ⟨gO3, 0, none⟩)), (4, .slice ao18 t17.length cap18), (5, .slice ao24 t23.length cap24), (6, .slice ao28 t27.length cap28)] (by kernel_rfl) fun a ha => ?_
   rcases Bool.eq_false_or_eq_true ((t17.length : Int) == (2 : Int)) with hb33 | hb33
   ·have ha := ha.lit hb33
    have H := ite_t hb33 H
    refine sgh ha 1 [2] [(1, .pointer (some ⟨gO3, 0, none⟩)), (5, .slice ao24 t23.length cap24), (6, .slice ao28 t27.length cap28), (42, .bool true), (43, .slice ao18 t17.length cap18)] (by kernel_rfl) fun a ha => ?_
    obtain ⟨⟨hx34, hx34'⟩, H⟩ := ite_some H
    refine ix (r := rStr) ha (by kernel_rfl) (by kernel_rfl) rfl rfl rfl rfl rfl (Own.toRSl (M' := []) f18 (Ok.nil _ _) (fun _ _ h => nomatch h)) hx34 hx34' fun a ge35 oe36 cs37 hn40 hR38 hE39 ha => ?_
    rw [rd_get] at hR38
    obtain rfl := hR38
    have hE39 : ∀ j v, ([.string (bstr (rd t17 (0 : Int)))] : List Value)[j]? = some v → w27.cell? ⟨ge35, oe36 + j, none⟩ = some v := hE39
    refine ld ha rfl (by kernel_rfl) rfl rfl rfl (hE39 0 (.string (bstr (rd t17 (0 : Int)))) (by kernel_rfl)) fun a ha => ?_
    refine sgh ha 3 [2, 3, 0] [(48, .bool ((bstr (rd t17 (0 : Int))).toList == (bstr ([120] : List UInt8)).toList)), (1, .pointer (some ⟨gO3, 0, none⟩)), (5, .slice ao24 t23.length cap24), (6, .slice ao28 t27.length cap28)] (by kernel_rfl) fun a ha => ?_
    rcases Bool.eq_false_or_eq_true ((bstr (rd t17 (0 : Int))).toList == (bstr ([120] : List UInt8)).toList) with hb41 | hb41
    ·have ha := ha.lit hb41
     have H := ite_t hb41 H
     refine sgh ha 5 [2, 2, 2, 3, 0] [(53, .bool ((t23.length : Int) == (1 : Int))), (1, .pointer (some ⟨gO3, 0, none⟩)), (5, .slice ao24 t23.length cap24), (6, .slice ao28 t27.length cap28)] (by kernel_rfl) fun a ha => ?_
     rcases Bool.eq_false_or_eq_true ((t23.length : Int) == (1 : Int)) with hb42 | hb42
     ·have ha := ha.lit hb42
      have H := ite_t hb42 H
      refine sgh ha 1 [2] [(1, .pointer (some ⟨gO3, 0, none⟩)), (6, .slice ao28 t27.length cap28), (53, .bool true), (54, .slice ao24 t23.length cap24)] (by kernel_rfl) fun a ha => ?_
      obtain ⟨⟨hx43, hx43'⟩, H⟩ := ite_some H
      refine ix (r := rStr) ha (by kernel_rfl) (by kernel_rfl) rfl rfl rfl rfl rfl (Own.toRSl (M' := []) f24 (Ok.nil _ _) (fun _ _ h => nomatch h)) hx43 hx43' fun a ge44 oe45 cs46 hn49 hR47 hE48 ha => ?_
      rw [rd_get] at hR47
      obtain rfl := hR47
      have hE48 : ∀ j v, ([.string (bstr (rd t23 (0 : Int)))] : List Value)[j]? = some v → w27.cell? ⟨ge44, oe45 + j, none⟩ = some v := hE48
      refine ld ha rfl (by kernel_rfl) rfl rfl rfl (hE48 0 (.string (bstr (rd t23 (0 : Int)))) (by kernel_rfl)) fun a ha => ?_
      refine sgh ha 3 [2, 3, 0] [(59, .bool ((bstr (rd t23 (0 : Int))).toList == (bstr ([121] : List UInt8)).toList)), (1, .pointer (some ⟨gO3, 0, none⟩)), (6, .slice ao28 t27.length cap28)] (by kernel_rfl) fun a ha => ?_
      rcases Bool.eq_false_or_eq_true ((bstr (rd t23 (0 : Int))).toList == (bstr ([121] : List UInt8)).toList) with hb50 | hb50
      ·have ha := ha.lit hb50
       have H := ite_t hb50 H
       refine sgh ha 5 [2, 2, 2, 3, 0] [(64, .bool ((t27.length : Int) == (1 : Int))), (1, .pointer (some ⟨gO3, 0, none⟩))] (by kernel_rfl) fun a ha => ?_
       rcases Bool.eq_false_or_eq_true ((t27.length : Int) == (1 : Int)) with hb51 | hb51
       ·have ha := ha.lit hb51
        have H := ite_t hb51 H
        refine sgh ha 1 [2] [(64, .bool true), (65, .pointer (some ⟨gO3, 0, none⟩))] (by kernel_rfl) fun a ha => ?_
        obtain ⟨t52, H52, H⟩ := bind_some H
        refine cl ha (by rfl) (by kernel_rfl) (by rfl) (by rfl) (by rfl) (vinerylaw20_Of.walk w27 _ hM ([88] : List UInt8) (0 : Int) (1 : Int) _ H52) ?_
        rintro _ w52 ⟨rfl, hc52, hMn⟩ a ha
        have fO12 := fO12.chg hc52 (fun _ _ h => nomatch h)
        have hM : MS (blkL ao28 ++ (blkL ao26 ++ (blkL ao24 ++ (blkL ao20 ++ (blkL ao18 ++ (blkL ao14 ++ (([gO3] ++ blkL ao12) ++ (M)))))))) w52 := (hM.chg hc52)
        have hC := hC.trans hc52 (Ok.nil _ _)
        obtain ⟨t53, H53, H⟩ := bind_some H
        refine cl ha (by rfl) (by kernel_rfl) (by rfl) (by rfl) (by rfl) (Jn_Add.walk w52 _ hM gO3 ao12 t12.2 fO12 (fun _ h => mr (mr (mr (mr (mr (mr (ml h))))))) t52 k _ H53) ?_
        rintro _ w53 ⟨ao53, rfl, nf53, hc53, hk53, hl53⟩ a ha
        have p_i53_i28 : ∀ x ∈ ([gO3] ++ blkL ao53), x ∉ (blkL ao28) := fun x hx hy => (hk53 x hx).elim (fun h => (fun x hx hy => p_i28_i12 x hy hx) x h hy) (fun h => absurd (hM x (ml hy)) (Nat.not_lt.2 h))
        have p_i53_i26 : ∀ x ∈ ([gO3] ++ blkL ao53), x ∉ (blkL ao26) := fun x hx hy => (hk53 x hx).elim (fun h => (fun x hx hy => p_i26_i12 x hy hx) x h hy) (fun h => absurd (hM x (mr (ml hy))) (Nat.not_lt.2 h))
        have p_i53_i24 : ∀ x ∈ ([gO3] ++ blkL ao53), x ∉ (blkL ao24) := fun x hx hy => (hk53 x hx).elim (fun h => (fun x hx hy => p_i24_i12 x hy hx) x h hy) (fun h => absurd (hM x (mr (mr (ml hy)))) (Nat.not_lt.2 h))
        have p_i53_i20 : ∀ x ∈ ([gO3] ++ blkL ao53), x ∉ (blkL ao20) := fun x hx hy => (hk53 x hx).elim (fun h => (fun x hx hy => p_i20_i12 x hy hx) x h hy) (fun h => absurd (hM x (mr (mr (mr (ml hy))))) (Nat.not_lt.2 h))
        have p_i53_i18 : ∀ x ∈ ([gO3] ++ blkL ao53), x ∉ (blkL ao18) := fun x hx hy => (hk53 x hx).elim (fun h => (fun x hx hy => p_i18_i12 x hy hx) x h hy) (fun h => absurd (hM x (mr (mr (mr (mr (ml hy)))))) (Nat.not_lt.2 h))
        have p_i53_i14 : ∀ x ∈ ([gO3] ++ blkL ao53), x ∉ (blkL ao14) := fun x hx hy => (hk53 x hx).elim (fun h => (fun x hx hy => p_i14_i12 x hy hx) x h hy) (fun h => absurd (hM x (mr (mr (mr (mr (mr (ml hy))))))) (Nat.not_lt.2 h))
        have p_i53_M : ∀ x ∈ ([gO3] ++ blkL ao53), x ∉ M := fun x hx hy => (hk53 x hx).elim (fun h => p_i12_M x h hy) (fun h => absurd (hM x (mr (mr (mr (mr (mr (mr (mr (hy))))))))) (Nat.not_lt.2 h))
        have e_i53 : ∀ x ∈ ([gO3] ++ blkL ao53), w.heap.size ≤ x := fun x hx => (hk53 x hx).elim (e_i12 x) (Nat.le_trans hC.size)
        have hM : MS (([gO3] ++ blkL ao53) ++ (blkL ao28 ++ (blkL ao26 ++ (blkL ao24 ++ (blkL ao20 ++ (blkL ao18 ++ (blkL ao14 ++ (M)))))))) w53 := (MS.app (fun x h => hl53 x (ml h)) (MS.app (fun x h => hM.chg hc53 x (ml h)) (MS.app (fun x h => hM.chg hc53 x (mr (ml h))) (MS.app (fun x h => hM.chg hc53 x (mr (mr (ml h)))) (MS.app (fun x h => hM.chg hc53 x (mr (mr (mr (ml h))))) (MS.app (fun x h => hM.chg hc53 x (mr (mr (mr (mr (ml h)))))) (MS.app (fun x h => hM.chg hc53 x (mr (mr (mr (mr (mr (ml h))))))) (fun x h => hM.chg hc53 x (mr (mr (mr (mr (mr (mr (mr (h))))))))))))))))
        have hC := hC.trans hc53 (fun x h => .inr (e_i12 x h))
        have fO53 := nf53
        refine sgh ha 3 [2, 3, 0] [(0, .bool (t53.1 == (1 : Int)))] (by kernel_rfl) fun a ha => ?_
        obtain rfl := Option.some.inj H
        have hM : MS (M) w53 := (fun x h => hM.chg (Chg.refl [] _) x (mr (mr (mr (mr (mr (mr (mr (h)))))))))
        exact J30 _ _ (ha.sel (by kernel_rfl)) hC hM
       ·have ha := ha.lit hb51
        have H := ite_f hb51 H
        refine sgh ha 6 [1, 1, 1, 1, 4, 0] [(0, .bool false)] (by kernel_rfl) fun a ha => ?_
        obtain rfl := Option.some.inj H
        have hM : MS (M) w27 := (fun x h => hM.chg (Chg.refl [] _) x (mr (mr (mr (mr (mr (mr (mr (h)))))))))
        exact J30 _ _ (ha.sel (by kernel_rfl)) hC hM
      ·have ha := ha.lit hb50
       have H := ite_f hb50 H
       refine sgh ha 11 [1, 1, 1, 4, 0, 1, 1, 1, 1, 4, 0] [(0, .bool false)] (by kernel_rfl) fun a ha => ?_
       obtain rfl := Option.some.inj H
       have hM : MS (M) w27 := (fun x h => hM.chg (Chg.refl [] _) x (mr (mr (mr (mr (mr (mr (mr (h)))))))))
       exact J30 _ _ (ha.sel (by kernel_rfl)) hC hM
     ·have ha := ha.lit hb42
      have H := ite_f hb42 H
      refine sgh ha 17 [1, 1, 1, 1, 4, 0, 1, 1, 1, 4, 0, 1, 1, 1, 1, 4, 0] [(0, .bool false)] (by kernel_rfl) fun a ha => ?_
      obtain rfl := Option.some.inj H
      have hM : MS (M) w27 := (fun x h => hM.chg (Chg.refl [] _) x (mr (mr (mr (mr (mr (mr (mr (h)))))))))
      exact J30 _ _ (ha.sel (by kernel_rfl)) hC hM
    ·have ha := ha.lit hb41
     have H := ite_f hb41 H
     refine sgh ha 22 [1, 1, 1, 4, 0, 1, 1, 1, 1, 4, 0, 1, 1, 1, 4, 0, 1, 1, 1, 1, 4, 0] [(0, .bool false)] (by kernel_rfl) fun a ha => ?_
     obtain rfl := Option.some.inj H
     have hM : MS (M) w27 := (fun x h => hM.chg (Chg.refl [] _) x (mr (mr (mr (mr (mr (mr (mr (h)))))))))
     exact J30 _ _ (ha.sel (by kernel_rfl)) hC hM
   ·have ha := ha.lit hb33
    have H := ite_f hb33 H
    refine sgh ha 28 [1, 1, 1, 1, 4, 0, 1, 1, 1, 4, 0, 1, 1, 1, 1, 4, 0, 1, 1, 1, 4, 0, 1, 1, 1, 1, 4, 0] [(0, .bool false)] (by kernel_rfl) fun a ha => ?_
    obtain rfl := Option.some.inj H
    have hM : MS (M) w27 := (fun x h => hM.chg (Chg.refl [] _) x (mr (mr (mr (mr (mr (mr (mr (h)))))))))
    exact J30 _ _ (ha.sel (by kernel_rfl)) hC hM
  ·have ha := ha.lit hb32
   have H := ite_f hb32 H
   refine sgh ha 33 [1, 1, 1, 4, 0, 1, 1, 1, 1, 4, 0, 1, 1, 1, 4, 0, 1, 1, 1, 1, 4, 0, 1, 1, 1, 4, 0, 1, 1, 1, 1, 4, 0] [(0, .bool false)] (by kernel_rfl) fun a ha => ?_
   obtain rfl := Option.some.inj H
   have hM : MS (M) w27 := (fun x h => hM.chg (Chg.refl [] _) x (mr (mr (mr (mr (mr (mr (mr (h)))))))))
   exact J30 _ _ (ha.sel (by kernel_rfl)) hC hM
 ·have ha := ha.lit hb31
  have H := ite_f hb31 H
  refine sgh ha 37 [1, 1, 4, 0, 1, 1, 1, 4, 0, 1, 1, 1, 1, 4, 0, 1, 1, 1, 4, 0, 1, 1, 1, 1, 4, 0, 1, 1, 1, 4, 0, 1, 1, 1, 1, 4, 0] [(0, .bool false)] (by kernel_rfl) fun a ha => ?_
  obtain rfl := Option.some.inj H
  have hM : MS (M) w27 := (fun x h => hM.chg (Chg.refl [] _) x (mr (mr (mr (mr (mr (mr (mr (h)))))))))
  exact J30 _ _ (ha.sel (by kernel_rfl)) hC hM

def joins_Joins_Clear_1.f (a0 : S_api_Join) (a1 : List UInt8) : Option (Bool) := some (((bstr a0.Vrf).toList == (bstr a1).toList : Bool))
set_option maxRecDepth 100000 in
theorem joins_Joins_Clear_1.walk (w : World) (M : List Nat) (hM : MS M w) (a0 : S_api_Join) (gp1 : Nat) (a1 : List UInt8) (hBgp1 : Box w gp1 ([.string (bstr a1)] : List Value)) (hg_gp1 : gp1 ∈ M) (r : Bool) (H : joins_Joins_Clear_1.f a0 a1 = some r) :
    To Tryz.prog 43 [.agg (cS_api_Join a0).toArray, .pointer (some ⟨gp1, 0, none⟩)] w fun v w' => v = .bool r ∧ Chg [] w w' ∧ MS (M) w' := by
 unfold joins_Joins_Clear_1.f at H
 refine ent Tryz.func43 rfl [(0, .agg (cS_api_Join a0).toArray), (1, .pointer (some ⟨gp1, 0, none⟩))] rfl (by rfl) fun a ha => ?_
 have hC : Chg [] w w := Chg.refl _ _
 refine wp_seq_k fun K1 hK1 => ?_
 refine wp_region_lit ?_
 refine bx (cs := (cS_api_Join a0)) ha rfl rfl rfl rfl rfl fun a w2 g3 hN4 ha => ?_
 have hn6 := hN4.notin hM
 have hBgp1 := hBgp1.chg hN4.chg (fun h => nomatch h)
 have hM : MS (M) w2 := (hM.chg hN4.chg)
 have hC := hC.trans hN4.chg (Ok.nil _ _)
 have hE5 : ∀ j v, (cS_api_Join a0)[j]? = some v → w2.cell? ⟨g3, 0 + j, none⟩ = some v := Box.cells (New.box hN4)
 refine seg ha 1 [(1, .pointer (some ⟨gp1, 0, none⟩)), (2, .pointer (some ⟨g3, 0, none⟩))] (by kernel_rfl) fun a ha => ?_
 refine hK1 _ _ ?_; try clear hK1 K1
 refine wp_seq_k fun K7 hK7 => ?_
 refine wp_region_lit ?_
 refine seg ha 1 [(1, .pointer (some ⟨gp1, 0, none⟩)), (4, .pointer (some ⟨g3, 0, none⟩))] (by kernel_rfl) fun a ha => ?_
 refine ld ha rfl (by kernel_rfl) rfl rfl rfl (hE5 0 (.string (bstr a0.Vrf)) (by kernel_rfl)) fun a ha => ?_
 refine ld (v := .string (bstr a1)) ha rfl (by kernel_rfl) rfl rfl rfl (hBgp1.cell' (o := 0) rfl (by kernel_rfl)) fun a ha => ?_
 refine seg ha 2 [(3, .bool ((bstr a0.Vrf).toList == (bstr a1).toList))] (by kernel_rfl) fun a ha => ?_
 refine hK7 _ _ ?_; try clear hK7 K7
 refine wp_ret ?_
 try simp only [Exit.then, Exit.inBlock]
 obtain rfl := Option.some.inj H
 refine rt1 ha rfl rfl ?_
 exact ⟨rfl, hC, hM⟩
def api_Join_56_joins_Joins_Clear_1.l0 (a0 : List S_api_Join) (a2 : List UInt8) : Nat → Int → Option ((Int) ⊕ (Unit))
  | 0, _ => none
  | kk + 1, x6 => (if (decide (x6 < (a0.length : Int))) = true then (if 0 ≤ x6 ∧ x6 < (a0.length : Int) then (joins_Joins_Clear_1.f (rd a0 x6) a2).bind fun t21 => (if t21 = true then some (.inl ((x6 : Int))) else api_Join_56_joins_Joins_Clear_1.l0 a0 a2 kk (IntKind.i64.wrap (x6 + (1 : Int)))) else none) else some (.inr (() : Unit)))
def api_Join_56_joins_Joins_Clear_1.f (k : Nat) (a0 : List S_api_Join) (a2 : List UInt8) : Option (Int) := (api_Join_56_joins_Joins_Clear_1.l0 a0 a2 k (0 : Int)).bind fun s5 => match s5 with | .inl r => some r | .inr s5' => some (((-1 : Int) : Int))
set_option maxRecDepth 100000 in
theorem api_Join_56_joins_Joins_Clear_1.walk (w : World) (M : List Nat) (hM : MS M w) (a0 : List S_api_Join) (ao1 : Option Addr) (cap1 : Nat) (f1 : RSl rS_api_Join 38 w M ao1 cap1 a0) (gp2 : Nat) (a2 : List UInt8) (hBgp2 : Box w gp2 ([.string (bstr a2)] : List Value)) (hg_gp2 : gp2 ∈ M) (k : Nat) (r : Int) (H : api_Join_56_joins_Joins_Clear_1.f k a0 a2 = some r) :
    To Tryz.prog 56 [.slice ao1 a0.length cap1, .func (.func 43) #[] #[.pointer (some ⟨gp2, 0, none⟩)]] w fun v w' => v = .int .i64 r ∧ Chg [] w w' ∧ MS (M) w' := by
 unfold api_Join_56_joins_Joins_Clear_1.f at H
 refine ent Tryz.func56 rfl [(0, .slice ao1 a0.length cap1), (1, .func (.func 43) #[] #[.pointer (some ⟨gp2, 0, none⟩)])] rfl (by rfl) fun a ha => ?_
 have hC : Chg [] w w := Chg.refl _ _
 refine wp_seq_k fun K2 hK2 => ?_
 refine wp_region_lit ?_
 refine seg ha 1 [(0, .slice ao1 a0.length cap1), (1, .func (.func 43) #[] #[.pointer (some ⟨gp2, 0, none⟩)])] (by kernel_rfl) fun a ha => ?_
 refine hK2 _ _ ?_; try clear hK2 K2
 refine wp_seq_k fun K3 hK3 => ?_
 refine wp_seq_k fun K4 hK4 => ?_
 refine wp_region_lit ?_
 refine seg ha 3 [(0, .slice ao1 a0.length cap1), (1, .func (.func 43) #[] #[.pointer (some ⟨gp2, 0, none⟩)]), (7, .int .i64 (a0.length : Int)), (8, .int .i64 (0 : Int))] (by kernel_rfl) fun a ha => ?_
 refine hK4 _ _ ?_; try clear hK4 K4
 refine wp_block ?_
 obtain ⟨s5, H5, H⟩ := bind_some H
 have J5 : ∀ s5' (a : Act) (wx5 : World), s5 = .inr s5' → Has a Tryz.f56.ntmps [] → (Box wx5 gp2 ([.string (bstr a2)] : List Value)) → (Chg [] w wx5) → (MS (M) wx5) → K3 a wx5 := by
  intro s5' a wx5 hs ha hBgp2 hC hM
  subst hs
  refine hK3 _ _ ?_; try clear hK3 K3
  refine wp_seq_k fun K7 hK7 => ?_
  refine wp_region_lit ?_
  refine seg ha 1 [(4, .int .i64 (-1 : Int))] (by kernel_rfl) fun a ha => ?_
  refine hK7 _ _ ?_; try clear hK7 K7
  refine wp_ret ?_
  try simp only [Exit.then, Exit.inBlock]
  obtain rfl := Option.some.inj H
  refine rt1 ha rfl rfl ?_
  exact ⟨rfl, hC, hM⟩
 have Hc5 := H
 have H := H5
 refine wp_loop_ghost (fun kk a w5 => ∃ (x6 : Int), api_Join_56_joins_Joins_Clear_1.l0 a0 a2 kk x6 = some s5 ∧ Has a Tryz.f56.ntmps [(0, .slice ao1 a0.length cap1), (1, .func (.func 43) #[] #[.pointer (some ⟨gp2, 0, none⟩)]), (7, .int .i64 (a0.length : Int)), (8, .int .i64 x6)] ∧ (RSl rS_api_Join 38 w5 (M) ao1 cap1 a0) ∧ (Box w5 gp2 ([.string (bstr a2)] : List Value)) ∧ (Chg [] w w5) ∧ (MS (M) w5)) k ?_ ?_
 ·skip
  exact ⟨(0 : Int), H, (ha.sel (by kernel_rfl)), f1, hBgp2, hC, hM⟩
 ·rintro kk a w5 ⟨x6, H, ha, f1, hBgp2, hC, hM⟩
  obtain _ | kk := kk
  ·exact nomatch (show none = some _ from H)
  rw [api_Join_56_joins_Joins_Clear_1.l0] at H
  refine wp_seq_k fun K8 hK8 => ?_
  refine wp_region_lit ?_
  refine seg ha 1 [(0, .slice ao1 a0.length cap1), (1, .func (.func 43) #[] #[.pointer (some ⟨gp2, 0, none⟩)]), (7, .int .i64 (a0.length : Int)), (8, .int .i64 x6), (9, .bool (decide (x6 < (a0.length : Int))))] (by kernel_rfl) fun a ha => ?_
  refine hK8 _ _ ?_; try clear hK8 K8
  refine wp_seq_k fun K9 hK9 => ?_
  refine cnd ha rfl (fun hc10 => ?_) (fun hc10 => ?_)
  ·have H := ite_t hc10 H
   refine wp_skip ?_
   refine hK9 _ _ ?_; try clear hK9 K9
   refine wp_seq_k fun K11 hK11 => ?_
   refine wp_block ?_
   refine wp_seq_k fun K12 hK12 => ?_
   refine wp_region_lit ?_
   refine seg ha 2 [(0, .slice ao1 a0.length cap1), (1, .func (.func 43) #[] #[.pointer (some ⟨gp2, 0, none⟩)]), (5, .int .i64 x6), (7, .int .i64 (a0.length : Int)), (8, .int .i64 x6)] (by kernel_rfl) fun a ha => ?_
   refine hK12 _ _ ?_; try clear hK12 K12
   refine wp_seq_k fun K13 hK13 => ?_
   refine wp_region_lit ?_
   refine seg ha 3 [(0, .slice ao1 a0.length cap1), (1, .func (.func 43) #[] #[.pointer (some ⟨gp2, 0, none⟩)]), (5, .int .i64 x6), (7, .int .i64 (a0.length : Int)), (8, .int .i64 x6), (11, .func (.func 43) #[] #[.pointer (some ⟨gp2, 0, none⟩)]), (12, .slice ao1 a0.length cap1), (13, .int .i64 x6)] (by kernel_rfl) fun a ha => ?_
   obtain ⟨⟨hx14, hx14'⟩, H⟩ := ite_some H
   refine ix (r := rS_api_Join) ha (by kernel_rfl) (by kernel_rfl) rfl rfl rfl rfl rfl f1 hx14 hx14' fun a ge15 oe16 cs17 hn20 hR18 hE19 ha => ?_
   rw [rd_get] at hR18
   obtain rfl := rS_api_Join.open hR18
   refine ldA (cs := (cS_api_Join (rd a0 x6))) ha rfl (by kernel_rfl) rfl rfl rfl (cells_sub hE19 (all := (cS_api_Join (rd a0 x6))) [] [] (by kernel_rfl)) fun a ha => ?_
   obtain ⟨t21, H21, H⟩ := bind_some H
   refine clc (vals := [.agg (cS_api_Join (rd a0 x6)).toArray]) (cs := #[.pointer (some ⟨gp2, 0, none⟩)]) ha (by rfl) (by rfl) (by kernel_rfl) (by rfl) (by rfl) (by rfl) (joins_Joins_Clear_1.walk w5 _ hM (rd a0 x6) gp2 a2 hBgp2 (hg_gp2) _ H21) ?_
   rintro _ w21 ⟨rfl, hc21, hMn⟩ a ha
   have o1 : Ok [] (M) w5.heap.size := Ok.nil _ _
   have o2 : Ok (M) (M) w5.heap.size := (Ok.refl _ _)
   have f1 := f1.chg hc21 o1 o2
   have hBgp2 := hBgp2.chg hc21 (fun h => nomatch h)
   have hM : MS (M) w21 := (hM.chg hc21)
   have hC := hC.trans hc21 (Ok.nil _ _)
   refine hK13 _ _ ?_; try clear hK13 K13
   refine cnd ha rfl (fun hc22 => ?_) (fun hc22 => ?_)
   ·have H := ite_t hc22 H
    refine wp_seq_k fun K23 hK23 => ?_
    refine wp_region_lit ?_
    refine seg ha 2 [(4, .int .i64 x6)] (by kernel_rfl) fun a ha => ?_
    refine hK23 _ _ ?_; try clear hK23 K23
    refine wp_ret ?_
    try simp only [Exit.then, Exit.inBlock]
    obtain rfl := Option.some.inj H
    have H := (show some _ = some _ from Hc5)
    obtain rfl := Option.some.inj H
    refine rt1 ha rfl rfl ?_
    exact ⟨rfl, hC, hM⟩
   ·have H := ite_f hc22 H
    refine wp_skip ?_
    refine hK11 _ _ ?_; try clear hK11 K11
    refine wp_region_lit ?_
    refine seg ha 2 [(0, .slice ao1 a0.length cap1), (1, .func (.func 43) #[] #[.pointer (some ⟨gp2, 0, none⟩)]), (7, .int .i64 (a0.length : Int)), (8, .int .i64 (IntKind.i64.wrap (x6 + (1 : Int))))] (by kernel_rfl) fun a ha => ?_
    exact ⟨kk, Nat.lt_succ_self _, ⟨IntKind.i64.wrap (x6 + (1 : Int)), H, (ha.sel (by kernel_rfl)), f1, hBgp2, hC, hM⟩⟩
  ·have H := ite_f hc10 H
   refine wp_exit ?_
   simp only [Exit.then, Exit.inBlock, ↓reduceIte, Nat.reduceEqDiff]
   obtain rfl := Option.some.inj H
   exact J5 _ _ _ rfl (ha.sel (by kernel_rfl)) hBgp2 hC hM
def kpJ (name : List UInt8) (j : S_api_Join) : Bool := !((bstr j.Vrf).toList == (bstr name).toList)
theorem elJ {w : World} {g : Nat} {cur : List S_api_Join} {tail : List Value} (hB : BoxT 38 w g (cur.flatMap cS_api_Join ++ tail)) (i : Nat) (hi : i < cur.length) : ∀ j v, (cS_api_Join cur[i])[j]? = some v → w.cell? ((⟨g, i * 36, none⟩ : Addr).add j) = some v :=
  hB.sub (m := 36) (by rw [dpJ cur tail i (by omega), List.drop_eq_getElem_cons hi, List.flatMap_cons, List.append_assoc, ← lenJ cur[i], List.take_left])
theorem setJ (cur : List S_api_Join) (tail : List Value) (m : Nat) (v : S_api_Join) (hm : m < cur.length) : (cur.flatMap cS_api_Join ++ tail).take (m * 36) ++ cS_api_Join v ++ (cur.flatMap cS_api_Join ++ tail).drop (m * 36 + (cS_api_Join v).length) = (cur.set m v).flatMap cS_api_Join ++ tail := by
  rw [tkJ cur tail m (by omega), lenJ, show m * 36 + 36 = (m + 1) * 36 by omega, dpJ cur tail (m + 1) (by omega), List.set_eq_take_append_cons_drop, if_pos hm, List.flatMap_append, List.flatMap_cons]
  simp only [List.append_assoc]
def delJ (name : List UInt8) (xs : List S_api_Join) (i : Nat) : List S_api_Join := xs.take i ++ (xs.drop (i + 1)).filter (kpJ name)
set_option maxRecDepth 100000 in
theorem delf_walk (w : World) (ao : Option Addr) (cap : Nat) (xs : List S_api_Join) (hO : Own rS_api_Join 38 w (blkL ao) ao cap xs) (name : List UInt8) (gn : Nat) (hnb : Box w gn [.string (bstr name)]) (hgn : gn ∉ blkL ao) (hn : xs.length ≤ 1000) (k : Nat) (ir : Int) (Hi : api_Join_56_joins_Joins_Clear_1.f k xs name = some ir) (hir : ir = -1 ∨ (0 ≤ ir ∧ ir < (xs.length : Int))) :
    To Tryz.prog 42 [.slice ao xs.length cap, .func (.func 43) #[] #[.pointer (some ⟨gn, 0, none⟩)]] w fun r w' => r = .slice ao (if ir = -1 then xs else delJ name xs ir.toNat).length cap ∧ Own rS_api_Join 38 w' (blkL ao) ao cap (if ir = -1 then xs else delJ name xs ir.toNat) ∧ Chg (blkL ao) w w' := by
  have hmax : maxLen = 9223372036854775807 := rfl
  have hR : RSl rS_api_Join 38 w [gn] ao cap xs := (own_J (M' := blkL ao) hO (Chg.refl [] w) (fun _ _ h => nomatch h) (fun _ h => h) |> fun h => (own_J (M' := [gn] ++ blkL ao) h (Chg.refl [] w) (fun _ _ h => nomatch h) (fun _ h => mr h)).toRSl (fun y hy => .inl (ml hy)) (fun y hy hg => hgn (by simp at hg; rw [← hg]; exact hy)))
  refine ent Tryz.func42 rfl [(0, .slice ao xs.length cap), (1, .func (.func 43) #[] #[.pointer (some ⟨gn, 0, none⟩)])] rfl (by rfl) fun a ha => ?_
  refine wp_seq_k fun K hK => ?_
  refine wp_region_lit ?_
  refine seg ha 1 [(0, .slice ao xs.length cap), (1, .func (.func 43) #[] #[.pointer (some ⟨gn, 0, none⟩)])] (by kernel_rfl) fun a ha => ?_
  refine hK _ _ ?_; clear hK K
  refine wp_seq_k fun K hK => ?_
  refine wp_region_lit ?_
  refine seg ha 2 [(0, .slice ao xs.length cap), (1, .func (.func 43) #[] #[.pointer (some ⟨gn, 0, none⟩)]), (8, .slice ao xs.length cap), (9, .func (.func 43) #[] #[.pointer (some ⟨gn, 0, none⟩)])] (by kernel_rfl) fun a ha => ?_
  refine cl ha (by rfl) (by kernel_rfl) (by rfl) (by rfl) (by rfl) (api_Join_56_joins_Joins_Clear_1.walk w [gn] (MS.cons hnb.lt (MS.nil _)) xs ao cap hR gn name hnb (by simp) k ir Hi) ?_
  rintro _ w1 ⟨rfl, c1, _⟩ a ha
  have hO := own_J (M' := blkL ao) hO c1 (fun _ _ h => nomatch h) (fun _ h => h)
  have hnb := hnb.chg c1 (fun h => nomatch h)
  refine seg ha 1 [(0, .slice ao xs.length cap), (1, .func (.func 43) #[] #[.pointer (some ⟨gn, 0, none⟩)]), (5, .int .i64 ir)] (by kernel_rfl) fun a ha => ?_
  refine hK _ _ ?_; clear hK K
  refine wp_seq_k fun K hK => ?_
  refine wp_seq_k fun K2 hK2 => ?_
  refine wp_region_lit ?_
  refine seg ha 2 [(0, .slice ao xs.length cap), (1, .func (.func 43) #[] #[.pointer (some ⟨gn, 0, none⟩)]), (5, .int .i64 ir), (12, .bool (ir == -1))] (by kernel_rfl) fun a ha => ?_
  refine hK2 _ _ ?_; clear hK2 K2
  refine cnd ha rfl (fun hc => ?_) (fun hc => ?_)
  · have hc : ir = -1 := by simpa using hc
    refine wp_seq_k fun K2 hK2 => ?_
    refine wp_region_lit ?_
    refine seg ha 2 [(4, .slice ao xs.length cap)] (by kernel_rfl) fun a ha => ?_
    refine hK2 _ _ ?_; clear hK2 K2
    refine wp_ret ?_
    simp only [Exit.then, Exit.inBlock]
    rw [if_pos hc]
    exact rt1 ha rfl rfl ⟨rfl, hO, c1.mono (Ok.nil _ _)⟩
  have hc : ir ≠ -1 := by simpa using hc
  obtain ⟨q1, q2⟩ := hir.resolve_left hc
  obtain ⟨i, rfl⟩ : ∃ i : Nat, ir = (i : Int) := ⟨ir.toNat, by omega⟩
  have hil : i < xs.length := by omega
  obtain ⟨g, rfl⟩ : ∃ g, ao = some ⟨g, 0, none⟩ := by
    rcases hO with ⟨_, e, _⟩ | ⟨g1, _, e, _⟩
    · rw [e] at hil; simp at hil
    · exact ⟨g1, e⟩
  have hgg : gn ≠ g := fun e => hgn (by simp [blkL, e])
  obtain ⟨tail, hB, hcl, hnc, hcm, _⟩ := Own.raw fJ hO
  have hcl : (xs.flatMap cS_api_Join ++ tail).length = cap * 36 := hcl
  refine wp_skip ?_
  refine hK _ _ ?_; clear hK K
  refine wp_seq_k fun K hK => ?_
  refine wp_seq_k fun K2 hK2 => ?_
  refine wp_region_lit ?_
  refine seg ha 3 [(0, .slice (some ⟨g, 0, none⟩) xs.length cap), (1, .func (.func 43) #[] #[.pointer (some ⟨gn, 0, none⟩)]), (5, .int .i64 (i : Int)), (6, .int .i64 (IntKind.i64.wrap ((i : Int) + 1)))] (by kernel_rfl) fun a ha => ?_
  have e1 : IntKind.i64.wrap ((i : Int) + 1) = ((i + 1 : Nat) : Int) := by rw [IntKind.wrap_i64]; omega
  rw [e1] at ha
  refine hK2 _ _ ?_; clear hK2 K2
  refine wp_block ?_
  have J : ∀ (a : Act) (w1 : World) (m : Nat) (cur : List S_api_Join), Has a Tryz.f42.ntmps [(0, .slice (some ⟨g, 0, none⟩) xs.length cap), (5, .int .i64 (m : Int))] → m < xs.length → cur.length = xs.length → cur.take m = delJ name xs i → BoxT 38 w1 g (cur.flatMap cS_api_Join ++ tail) → Chg [g] w w1 → K a w1 := by
    intro a w1 m cur ha hm hcl2 htk hB hC
    have hl2 : (cur.flatMap cS_api_Join ++ tail).length = cap * 36 := by rw [List.length_append, flJ, hcl2, ← hcl, List.length_append, flJ]
    refine hK _ _ ?_; clear hK K
    refine wp_seq_k fun K2 hK2 => ?_
    refine wp_region_lit ?_
    refine seg ha 2 [(0, .slice (some ⟨g, 0, none⟩) xs.length cap), (5, .int .i64 (m : Int)), (36, .slice (some ⟨g, 0, none⟩) xs.length cap), (37, .int .i64 (m : Int))] (by kernel_rfl) fun a ha => ?_
    refine hop (w' := w1) ha rfl rfl rfl (slR_run (T := 38) (s := 36) (l := m) (h := xs.length) (m := cap) ha (by kernel_rfl) (by kernel_rfl) rfl (.inr ⟨_, _, rfl, rfl⟩) (.inl ⟨rfl, rfl, rfl⟩) (.inl ⟨rfl, rfl⟩) (by omega) hnc (Nat.le_refl _) w1) fun a ha => ?_
    rw [if_neg (by omega), Addr.add_lit, Nat.zero_add] at ha
    refine clr (e := 38) (s := 36) (z := .agg (cS_api_Join zJ).toArray) ha (by kernel_rfl) rfl (fun w => by kernel_rfl) (by show (cS_api_Join zJ).toArray.size = 36; simp [lenJ]) (zone _ (by show 0 < (cS_api_Join zJ).toArray.size; simp [lenJ]) (fun v hv => oneJ w [zJ] v (by rw [List.flatMap_singleton]; have hv : v ∈ (cS_api_Join zJ).toArray := hv; simpa using hv)) _) rfl hB (by
      rw [zlen, show (Value.agg (cS_api_Join zJ).toArray).cells.size = 36 from by show (cS_api_Join zJ).toArray.size = 36; simp [lenJ], hl2]; omega) fun a w6 cs6 ha hB6 htk6 hl6 hc6 => ?_
    refine wpl_end ?_
    have ha := ha.sel (env' := [(0, .slice (some ⟨g, 0, none⟩) xs.length cap), (5, .int .i64 (m : Int))]) (by kernel_rfl)
    refine hK2 _ _ ?_; clear hK2 K2
    refine wp_seq_k fun K2 hK2 => ?_
    refine wp_region_lit ?_
    refine seg ha 2 [(39, .slice (some ⟨g, 0, none⟩) xs.length cap), (40, .int .i64 (m : Int))] (by kernel_rfl) fun a ha => ?_
    refine hop (w' := w6) ha rfl rfl rfl (slR_run (T := 38) (s := 36) (l := 0) (h := m) (m := cap) ha (by kernel_rfl) (by kernel_rfl) rfl (.inl ⟨rfl, rfl⟩) (.inr ⟨_, _, rfl, rfl⟩) (.inl ⟨rfl, rfl⟩) (Nat.zero_le _) (by omega) (Nat.le_refl _) w6) fun a ha => ?_
    rw [if_neg (by omega), Nat.zero_mul, Addr.add_lit, Nat.sub_zero, Nat.sub_zero] at ha
    refine seg ha 1 [(4, .slice (some ⟨g, 0, none⟩) m cap)] (by kernel_rfl) fun a ha => ?_
    refine hK2 _ _ ?_; clear hK2 K2
    refine wp_ret ?_
    have em : (delJ name xs i).length = m := by rw [← htk, List.length_take]; omega
    rw [if_neg hc, Int.toNat_natCast]
    refine rt1 ha rfl rfl ⟨by rw [em], ?_, hC.trans hc6 (Ok.refl _ _)⟩
    refine Own.ofRaw fJ hB6 (by rw [hl6, hl2]; rfl) ?_ (by omega) hcm (by simp [blkL])
    show cs6.take ((delJ name xs i).length * 36) = _
    rw [em, htk6, tkJ cur tail m (by omega), htk]
  refine wp_loop_ghost (fun kk a w1 => ∃ (m jj : Nat) (cur : List S_api_Join), kk = xs.length - jj ∧ m < jj ∧ i + 1 ≤ jj ∧ jj ≤ xs.length ∧ cur.length = xs.length ∧ cur.take m = xs.take i ++ ((xs.drop (i + 1)).take (jj - (i + 1))).filter (kpJ name) ∧ cur.drop jj = xs.drop jj ∧ Has a Tryz.f42.ntmps [(0, .slice (some ⟨g, 0, none⟩) xs.length cap), (1, .func (.func 43) #[] #[.pointer (some ⟨gn, 0, none⟩)]), (5, .int .i64 (m : Int)), (6, .int .i64 (jj : Int))] ∧ BoxT 38 w1 g (cur.flatMap cS_api_Join ++ tail) ∧ Box w1 gn [.string (bstr name)] ∧ Chg [g] w w1) (xs.length - (i + 1)) ?_ ?_
  · exact ⟨i, i + 1, xs, rfl, by omega, Nat.le_refl _, by omega, rfl, by simp, rfl, ha.sel (by kernel_rfl), hB, hnb, c1.mono (Ok.nil _ _)⟩
  rintro kk a w2 ⟨m, jj, cur, rfl, hmj, hij, hjn, hcl2, htk, hdp, ha, hB, hnb, hC⟩
  refine wp_seq_k fun KA hKA => ?_
  refine wp_seq_k fun K2 hK2 => ?_
  refine wp_region_lit ?_
  refine seg ha 4 [(0, .slice (some ⟨g, 0, none⟩) xs.length cap), (1, .func (.func 43) #[] #[.pointer (some ⟨gn, 0, none⟩)]), (5, .int .i64 (m : Int)), (6, .int .i64 (jj : Int)), (19, .bool (decide ((jj : Int) < (xs.length : Int))))] (by kernel_rfl) fun a ha => ?_
  refine hK2 _ _ ?_; clear hK2 K2
  refine cnd ha rfl (fun h3 => ?_) (fun h3 => ?_)
  rotate_left
  · refine wp_exit ?_
    simp only [Exit.then, Exit.inBlock, ↓reduceIte, Nat.reduceEqDiff]
    have h3 : ¬ (jj : Int) < xs.length := of_decide_eq_false h3
    have hjj : jj = xs.length := by omega
    refine J _ _ m cur (ha.sel (by kernel_rfl)) (by omega) hcl2 ?_ hB hC
    have e7 : (xs.drop (i + 1)).take (jj - (i + 1)) = xs.drop (i + 1) := List.take_of_length_le (by rw [List.length_drop]; omega)
    rw [htk, e7]; rfl
  have h3 : (jj : Int) < xs.length := of_decide_eq_true h3
  have hjl : jj < xs.length := by omega
  have hcj : cur[jj]'(by omega) = xs[jj] := by
    have e := congrArg (fun l : List S_api_Join => l[0]?) hdp
    simp only [List.getElem?_drop, Nat.add_zero] at e
    rw [List.getElem?_eq_getElem (by omega), List.getElem?_eq_getElem hjl] at e
    exact Option.some.inj e
  refine wp_skip ?_
  refine hKA _ _ ?_; clear hKA KA
  refine wp_seq_k fun KB hKB => ?_
  refine wp_block ?_
  refine wp_seq_k fun K2 hK2 => ?_
  refine wp_region_lit ?_
  refine seg ha 2 [(0, .slice (some ⟨g, 0, none⟩) xs.length cap), (1, .func (.func 43) #[] #[.pointer (some ⟨gn, 0, none⟩)]), (5, .int .i64 (m : Int)), (6, .int .i64 (jj : Int)), (22, .slice (some ⟨g, 0, none⟩) xs.length cap), (23, .int .i64 (jj : Int))] (by kernel_rfl) fun a ha => ?_
  refine hop (w' := w2) ha rfl rfl rfl (ix_run (r := rS_api_Join) (T := 38) (xs := xs) (k := .i64) (i := (jj : Int)) ha (by kernel_rfl) (by kernel_rfl) (by rfl) (by rfl) rfl (by omega) h3) fun a ha => ?_
  have eo : (0 + Int.toNat (jj : Int) * rS_api_Join.sz) = jj * 36 := by show 0 + Int.toNat (jj : Int) * 36 = jj * 36; rw [Int.toNat_natCast]; omega
  rw [eo] at ha
  refine ldA (cs := cS_api_Join xs[jj]) ha rfl (by kernel_rfl) rfl rfl rfl (by rw [← hcj]; exact elJ hB jj (by omega)) fun a ha => ?_
  have hgl := hB.box.lt
  have hnl := hnb.lt
  have hCs := hC.size
  refine al (cs := cS_api_Join zJ) (z := .agg (cS_api_Join zJ).toArray) ha (fun w => by kernel_rfl) rfl rfl rfl rfl fun a w3 g3 N3 ha => ?_
  have hB := hB.chg N3.chg (fun h => nomatch h)
  have hnb := hnb.chg N3.chg (fun h => nomatch h)
  have hC := hC.trans N3.chg (Ok.nil _ _)
  have hi3 := N3.idx
  have hg3 : g3 ≠ g := by omega
  have hg3n : g3 ≠ gn := by omega
  have hv3 : Box w3 g3 (cS_api_Join zJ) := N3.box
  refine stA (l := cS_api_Join xs[jj]) ha rfl rfl rfl (by kernel_rfl) rfl rfl hv3 rfl fun a w4 ha hb4 c4 _ => ?_
  have hB := hB.chg c4 (by simp [Ne.symm hg3])
  have hnb := hnb.chg c4 (by simp [Ne.symm hg3n])
  have hC := hC.trans c4 (Ok.one (.inr (by omega)))
  refine wpl_end ?_
  have ha := ha.sel (env' := [(0, .slice (some ⟨g, 0, none⟩) xs.length cap), (1, .func (.func 43) #[] #[.pointer (some ⟨gn, 0, none⟩)]), (5, .int .i64 (m : Int)), (6, .int .i64 (jj : Int)), (7, .pointer (some ⟨g3, 0, none⟩))]) (by kernel_rfl)
  refine hK2 _ _ ?_; clear hK2 K2
  refine wp_seq_k fun K3 hK3 => ?_
  refine wp_region_lit ?_
  refine seg ha 1 [(0, .slice (some ⟨g, 0, none⟩) xs.length cap), (1, .func (.func 43) #[] #[.pointer (some ⟨gn, 0, none⟩)]), (5, .int .i64 (m : Int)), (6, .int .i64 (jj : Int)), (7, .pointer (some ⟨g3, 0, none⟩)), (26, .func (.func 43) #[] #[.pointer (some ⟨gn, 0, none⟩)])] (by kernel_rfl) fun a ha => ?_
  refine ldA (cs := cS_api_Join xs[jj]) ha rfl (by kernel_rfl) rfl rfl rfl (cells_sub (Box.cells hb4) (all := cS_api_Join xs[jj]) [] [] (by simp)) fun a ha => ?_
  refine clc (vals := [.agg (cS_api_Join xs[jj]).toArray]) (cs := #[.pointer (some ⟨gn, 0, none⟩)]) ha (by rfl) (by rfl) (by kernel_rfl) (by rfl) (by rfl) (by rfl) (joins_Joins_Clear_1.walk w4 [gn] (MS.cons hnb.lt (MS.nil _)) xs[jj] gn name hnb (by simp) _ rfl) ?_
  rintro _ w5 ⟨rfl, c5, _⟩ a ha
  have hB := hB.chg c5 (fun h => nomatch h)
  have hnb := hnb.chg c5 (fun h => nomatch h)
  have hb5 := hb4.chg c5 (fun h => nomatch h)
  have hC := hC.trans c5 (Ok.nil _ _)
  refine seg ha 1 [(0, .slice (some ⟨g, 0, none⟩) xs.length cap), (1, .func (.func 43) #[] #[.pointer (some ⟨gn, 0, none⟩)]), (5, .int .i64 (m : Int)), (6, .int .i64 (jj : Int)), (7, .pointer (some ⟨g3, 0, none⟩)), (29, .bool (kpJ name xs[jj]))] (by kernel_rfl) fun a ha => ?_
  refine hK3 _ _ ?_; clear hK3 K3
  have JE : ∀ (a : Act) (w6 : World) (m' : Nat) (cur' : List S_api_Join), Has a Tryz.f42.ntmps [(0, .slice (some ⟨g, 0, none⟩) xs.length cap), (1, .func (.func 43) #[] #[.pointer (some ⟨gn, 0, none⟩)]), (5, .int .i64 (m' : Int)), (6, .int .i64 (jj : Int))] → m' < jj + 1 → cur'.length = xs.length → cur'.take m' = xs.take i ++ ((xs.drop (i + 1)).take (jj + 1 - (i + 1))).filter (kpJ name) → cur'.drop (jj + 1) = xs.drop (jj + 1) → BoxT 38 w6 g (cur'.flatMap cS_api_Join ++ tail) → Box w6 gn [.string (bstr name)] → Chg [g] w w6 → KB a w6 := by
    intro a w6 m' cur' ha hm' hcl' htk' hdp' hB hnb hC
    refine hKB _ _ ?_; clear hKB KB
    refine wp_region_lit ?_
    refine seg ha 3 [(0, .slice (some ⟨g, 0, none⟩) xs.length cap), (1, .func (.func 43) #[] #[.pointer (some ⟨gn, 0, none⟩)]), (5, .int .i64 (m' : Int)), (6, .int .i64 (IntKind.i64.wrap ((jj : Int) + 1)))] (by kernel_rfl) fun a ha => ?_
    have e : IntKind.i64.wrap ((jj : Int) + 1) = ((jj + 1 : Nat) : Int) := by rw [IntKind.wrap_i64]; omega
    rw [e] at ha
    exact ⟨xs.length - (jj + 1), by omega, m', jj + 1, cur', rfl, hm', by omega, by omega, hcl', htk', hdp', ha.sel (by kernel_rfl), hB, hnb, hC⟩
  have etk : (xs.drop (i + 1)).take (jj + 1 - (i + 1)) = (xs.drop (i + 1)).take (jj - (i + 1)) ++ [xs[jj]] := by
    rw [show jj + 1 - (i + 1) = (jj - (i + 1)) + 1 by omega, List.take_add_one, List.getElem?_drop, show i + 1 + (jj - (i + 1)) = jj by omega, List.getElem?_eq_getElem hjl]; rfl
  refine cnd ha rfl (fun h6 => ?_) (fun h6 => ?_)
  rotate_left
  · refine wp_skip ?_
    refine JE _ _ m cur (ha.sel (by kernel_rfl)) (by omega) hcl2 ?_ ?_ hB hnb hC
    · rw [etk, List.filter_append, htk]; simp [List.filter_cons, h6]
    · have e9 := congrArg (List.drop 1) hdp
      rwa [List.drop_drop, List.drop_drop] at e9
  refine wp_seq_k fun K3 hK3 => ?_
  refine wp_region_lit ?_
  refine seg ha 2 [(0, .slice (some ⟨g, 0, none⟩) xs.length cap), (1, .func (.func 43) #[] #[.pointer (some ⟨gn, 0, none⟩)]), (5, .int .i64 (m : Int)), (6, .int .i64 (jj : Int)), (7, .pointer (some ⟨g3, 0, none⟩)), (30, .slice (some ⟨g, 0, none⟩) xs.length cap), (31, .int .i64 (m : Int))] (by kernel_rfl) fun a ha => ?_
  refine ldA (cs := cS_api_Join xs[jj]) ha rfl (by kernel_rfl) rfl rfl rfl (cells_sub (Box.cells hb5) (all := cS_api_Join xs[jj]) [] [] (by simp)) fun a ha => ?_
  refine hop (w' := w5) ha rfl rfl rfl (ix_run (r := rS_api_Join) (T := 38) (xs := xs) (k := .i64) (i := (m : Int)) ha (by kernel_rfl) (by kernel_rfl) (by rfl) (by rfl) rfl (by omega) (by omega)) fun a ha => ?_
  have eo2 : (0 + Int.toNat (m : Int) * rS_api_Join.sz) = m * 36 := by show 0 + Int.toNat (m : Int) * 36 = m * 36; rw [Int.toNat_natCast]; omega
  rw [eo2] at ha
  refine stAT (l := cS_api_Join xs[jj]) (o' := m * 36) ha rfl rfl rfl (by kernel_rfl) rfl rfl hB (Nat.ble_eq_true_of_le ?_) fun a w7 ha hb7 c7 _ => ?_
  · rw [lenJ, List.length_append, flJ]; omega
  rw [setJ cur tail m _ (by omega)] at hb7
  have hnb := hnb.chg c7 (by simp [hgg])
  have hC := hC.trans c7 (Ok.refl _ _)
  refine wpl_end ?_
  have ha := ha.sel (env' := [(0, .slice (some ⟨g, 0, none⟩) xs.length cap), (1, .func (.func 43) #[] #[.pointer (some ⟨gn, 0, none⟩)]), (5, .int .i64 (m : Int)), (6, .int .i64 (jj : Int))]) (by kernel_rfl)
  refine hK3 _ _ ?_; clear hK3 K3
  refine wp_region_lit ?_
  refine seg ha 3 [(0, .slice (some ⟨g, 0, none⟩) xs.length cap), (1, .func (.func 43) #[] #[.pointer (some ⟨gn, 0, none⟩)]), (5, .int .i64 (IntKind.i64.wrap ((m : Int) + 1))), (6, .int .i64 (jj : Int))] (by kernel_rfl) fun a ha => ?_
  have em1 : IntKind.i64.wrap ((m : Int) + 1) = ((m + 1 : Nat) : Int) := by rw [IntKind.wrap_i64]; omega
  rw [em1] at ha
  refine JE _ _ (m + 1) (cur.set m xs[jj]) (ha.sel (by kernel_rfl)) (by omega) (by rw [List.length_set]; exact hcl2) ?_ ?_ hb7 hnb hC
  · rw [etk, List.filter_append, List.take_add_one, List.take_set_of_le (Nat.le_refl _), List.getElem?_set_self (by omega), htk]; simp [List.filter_cons, h6]
  · rw [List.drop_set_of_lt (by omega)]
    have e9 := congrArg (List.drop 1) hdp
    rwa [List.drop_drop, List.drop_drop] at e9
def Jn_Clear.f (k : Nat) (x : S_joins_Joins) (name : List UInt8) : Option (Int × S_joins_Joins) :=
  (api_Join_56_joins_Joins_Clear_1.f k x.all name).bind fun ir => if (ir = -1 ∨ (0 ≤ ir ∧ ir < (x.all.length : Int))) ∧ x.all.length ≤ 1000 then some (IntKind.i64.wrap ((x.all.length : Int) - ((if ir = -1 then x.all else delJ name x.all ir.toNat).length : Int)), ⟨if ir = -1 then x.all else delJ name x.all ir.toNat⟩) else none
set_option maxRecDepth 100000 in
theorem Jn_Clear.walk (w : World) (M : List Nat) (hM : MS M w) (g : Nat) (ao : Option Addr) (x : S_joins_Joins) (f : JAt w g ao x) (hL : ∀ y ∈ [g] ++ blkL ao, y ∈ M) (name : List UInt8) (k : Nat) (r : Int × S_joins_Joins) (H : Jn_Clear.f k x name = some r) :
    To Tryz.prog 22 [.pointer (some ⟨g, 0, none⟩), .string (bstr name)] w fun v w' => ∃ ao2, v = .int .i64 r.1 ∧ JAt w' g ao2 r.2 ∧ Chg ([g] ++ blkL ao) w w' ∧ Ok ([g] ++ blkL ao2) ([g] ++ blkL ao) w.heap.size ∧ MS (([g] ++ blkL ao2) ++ M) w' := by
  unfold Jn_Clear.f at H
  obtain ⟨ir, Hi, H⟩ := bind_some H
  obtain ⟨⟨hir, hn⟩, H⟩ := ite_some H
  have H := Option.some.inj H
  obtain ⟨cap, h1, h2, h3⟩ := f
  generalize hys : (if ir = -1 then x.all else delJ name x.all ir.toNat) = ys at H
  refine ent Tryz.func22 rfl [(0, .pointer (some ⟨g, 0, none⟩)), (1, .string (bstr name))] rfl (by rfl) fun a ha => ?_
  refine wp_seq_k fun K hK => ?_
  refine wp_region_lit ?_
  refine bx (cs := [.string (bstr name)]) ha rfl rfl rfl rfl rfl fun a w1 gn N1 ha => ?_
  have c1 := N1.chg
  have hnb : Box w1 gn [.string (bstr name)] := N1.box
  have hng : gn ∉ blkL ao := fun h => by have := h3.lt gn h; have := N1.ge; omega
  have h2 := h2.chg c1 (fun h => nomatch h)
  have h3 := own_J (M' := blkL ao) h3 c1 (fun _ _ h => nomatch h) (fun _ h => h)
  have hM := hM.chg c1
  refine seg ha 1 [(0, .pointer (some ⟨g, 0, none⟩)), (3, .pointer (some ⟨gn, 0, none⟩))] (by kernel_rfl) fun a ha => ?_
  refine hK _ _ ?_; clear hK K
  refine wp_seq_k fun K hK => ?_
  refine wp_region_lit ?_
  refine seg ha 3 [(0, .pointer (some ⟨g, 0, none⟩)), (3, .pointer (some ⟨gn, 0, none⟩)), (8, .pointer (some ⟨g, 0, none⟩))] (by kernel_rfl) fun a ha => ?_
  refine ld (v := .slice ao x.all.length cap) ha rfl (by kernel_rfl) rfl rfl rfl (h2.cell' (o := 0) rfl rfl) fun a ha => ?_
  refine seg ha 2 [(0, .pointer (some ⟨g, 0, none⟩)), (3, .pointer (some ⟨gn, 0, none⟩)), (5, .int .i64 (x.all.length : Int))] (by kernel_rfl) fun a ha => ?_
  refine hK _ _ ?_; clear hK K
  refine wp_seq_k fun K hK => ?_
  refine wp_region_lit ?_
  refine seg ha 4 [(0, .pointer (some ⟨g, 0, none⟩)), (3, .pointer (some ⟨gn, 0, none⟩)), (5, .int .i64 (x.all.length : Int)), (11, .pointer (some ⟨g, 0, none⟩)), (14, .pointer (some ⟨g, 0, none⟩))] (by kernel_rfl) fun a ha => ?_
  refine ld (v := .slice ao x.all.length cap) ha rfl (by kernel_rfl) rfl rfl rfl (h2.cell' (o := 0) rfl rfl) fun a ha => ?_
  refine opk (v := .func (.func 43) #[] #[.pointer (some ⟨gn, 0, none⟩)]) ha rfl rfl rfl rfl rfl (fun w => by kernel_rfl) fun a ha => ?_
  refine cl ha (by rfl) (by kernel_rfl) (by rfl) (by rfl) (by rfl) (delf_walk w1 ao cap x.all h3 name gn hnb hng hn k ir Hi hir) ?_
  rw [hys]
  rintro _ w4 ⟨rfl, f4, c4⟩ a ha
  have h2 := h2.chg c4 h1
  refine seg ha 2 [(0, .pointer (some ⟨g, 0, none⟩)), (5, .int .i64 (x.all.length : Int)), (17, .slice ao ys.length cap), (19, .pointer (some ⟨g, 0, none⟩))] (by kernel_rfl) fun a ha => ?_
  refine st ha rfl rfl rfl (by kernel_rfl) rfl rfl h2 (Nat.le_of_ble_eq_true (by kernel_rfl)) fun a w5 ha hb5 c5 _ => ?_
  refine wpl_end ?_
  have hB : Box w5 g (cS_joins_Joins ⟨ys⟩ ao cap) := hb5
  have ha := ha.sel (env' := [(0, .pointer (some ⟨g, 0, none⟩)), (5, .int .i64 (x.all.length : Int))]) (by kernel_rfl)
  refine hK _ _ ?_; clear hK K
  refine wp_seq_k fun K hK => ?_
  refine wp_region_lit ?_
  refine seg ha 4 [(20, .int .i64 (x.all.length : Int)), (23, .pointer (some ⟨g, 0, none⟩))] (by kernel_rfl) fun a ha => ?_
  refine ld (v := .slice ao ys.length cap) ha rfl (by kernel_rfl) rfl rfl rfl (hB.cell' (o := 0) rfl rfl) fun a ha => ?_
  refine seg ha 3 [(4, .int .i64 (IntKind.i64.wrap ((x.all.length : Int) - (ys.length : Int))))] (by kernel_rfl) fun a ha => ?_
  refine hK _ _ ?_; clear hK K
  refine wp_ret ?_
  subst H
  have C5 : Chg ([g] ++ blkL ao) w w5 := ((c1.mono (gs' := [g] ++ blkL ao) (Ok.nil _ _)).trans c4 (fun y hy => .inl (mr hy))).trans c5 (Ok.one (.inl (by simp)))
  have f5 : Own rS_api_Join 38 w5 (blkL ao) ao cap ys := own_J f4 c5 (fun y hy hh => by simp at hh; subst hh; exact h1 hy) (fun _ h => h)
  exact rt1 ha rfl rfl ⟨ao, rfl, ⟨cap, h1, hB, f5⟩, C5, Ok.refl _ _, fun y hy => (List.mem_append.1 hy).elim (fun h => (hM.chg c4).chg c5 y (hL y h)) (fun h => (hM.chg c4).chg c5 y h)⟩

end Go.E
