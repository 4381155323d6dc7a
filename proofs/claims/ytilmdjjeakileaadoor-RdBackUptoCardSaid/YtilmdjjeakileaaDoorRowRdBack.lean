/- Texts and distinguishers are each other's, and parts and those that are known. Where what it reads is of bulk at most 1048576. -/
import Derived.Test.YtilmdjjeakileaaDoorLawRdBack
import Derived.Test.YtilmdjjeakileaaDoorEngW
import Derived.Test.YtilmdjjeakileaaDoorRows
import Derived.Test.YtilmdjjeakileaaDoorCards
import Derived.Test.YtilmdjjeakileaaDoorTie
set_option linter.unusedVariables false
set_option linter.unusedSimpArgs false
namespace Go.Proofs.YtilmdjjeakileaaDoor
open Go.E Go.ChangeShapes Go.WideShapes Go.ChangeAt Go.RowKit
theorem RdBack_own : ownKnob Tryd.prog.godebug = none := by kernel_rfl
theorem RdBack_laidOut : laidOutB Tryd.prog = true := by kernel_rfl
set_option maxRecDepth 100000 in
theorem RdBack_lifted (os : Os) (started : os.Started) (H : Type) (enc : TypeId × Value → H) (F : Stop.Interp) :
    ReturnsInHanded {} Tryd.checked os 3 .any ((Rows.OpenSpec.upto Rows.rdBackSpec).preRow enc Tryd.prog Tryd.f3 Rows.rdBackUptoRow.domain false Rows.rdBackUptoRow.laid) (((Rows.OpenSpec.upto Rows.rdBackSpec).at F).post enc Tryd.prog Tryd.f3 false true false false) := by
  refine lift_row (C := Tryd.checked) (tb := 4) (s := Rows.rdBackSpec) (k := Rows.uptoSmall) (laid := Rows.rdBackUptoRow.laid) RdBack_own started (by kernel_rfl) Tryd.func3
    (witness_row_shaped (enc := enc) (C := Tryd.checked) (os := os) (s := (Rows.OpenSpec.upto Rows.rdBackSpec)) false (World.laidAll Tryd.prog os Rows.rdBackUptoRow.laid) #[.agg (cA .u8 8 (List.replicate 8 (0 : Int))).toArray, .string ⟨#[]⟩, .int .i64 0, .int .i64 0, .int .i64 0] (World.laidAll_os _ _ _) (World.shaped_of_ZipB (by kernel_rfl) (by kernel_rfl)) (by kernel_rfl)
      (preRow_of_get 8 (by kernel_rfl) (by kernel_rfl) (fun k hk => by cases hk; kernel_rfl) (by kernel_rfl) (by rw [MakeChecks.laidMetH_plain _ _ _ (by kernel_rfl)]; exact laidMet_laidAll _ (by kernel_rfl) (by kernel_rfl))))
    RdBack_laidOut (by kernel_rfl) (by kernel_rfl) (by kernel_rfl) rfl (fun ds h => ?_) ?_
  · rw [Tryd.params3] at h
    match ds, h with
    | [_, _, _, _, _], _ => rfl
  · intro W base args ds p hval hA hsz hk hL hsh
    rw [MakeChecks.laidMetH_plain _ _ _ (by kernel_rfl)] at hL
    have L0 : laidMet Tryd.prog (("math/bits.deBruijn32tab", Rows.laid_math_bits_deBruijn32tab) :: Rows.rdBackUptoRow.laid.drop 1) W := hL
    have L1 : laidMet Tryd.prog (("math/bits.deBruijn64tab", Lib.tabData .u8 dbTab) :: Rows.rdBackUptoRow.laid.drop 2) W := L0.tail
    have L2 : laidMet Tryd.prog (("internal/strconv.uint64pow10", Lib.tabData .u64 Lib.pow10Tab) :: Rows.rdBackUptoRow.laid.drop 3) W := L1.tail
    have L3 : laidMet Tryd.prog (("unicode/utf8.acceptRanges", Rows.laid_unicode_utf8_acceptRanges) :: Rows.rdBackUptoRow.laid.drop 4) W := L2.tail
    have L4 : laidMet Tryd.prog (("unicode/utf8.first", Rows.laid_unicode_utf8_first) :: Rows.rdBackUptoRow.laid.drop 5) W := L3.tail
    have hG : GF W [] := ⟨⟨Lib.tabIs_of_head (g := 1) (t := 125) (e := 110) (n := 20) (by kernel_rfl) (by kernel_rfl) (by kernel_rfl) (by kernel_rfl) (by kernel_rfl) (by kernel_rfl) L2, by simp⟩, ⟨Lib.tabIs_of_head (g := 5) (t := 143) (e := 5) (n := 64) (by kernel_rfl) (by kernel_rfl) (by kernel_rfl) (by kernel_rfl) (by kernel_rfl) (by kernel_rfl) L1, by simp⟩, ⟨Go.Proofs.cell_of_shapedOpen_int (g := 0) (t := 3) (zero := #[.int .i64 0]) hsh (of_decide_eq_true (by kernel_rfl)) (by kernel_rfl) rfl (by kernel_rfl) (by kernel_rfl) (by kernel_rfl), by simp⟩⟩
    rw [Tryd.params3] at hval
    have hA' : DataW.TrodAll enc Tryd.prog W 0 (fun _ => true) true [23, 9, 3, 3, 3] args.toList ds p := hA
    obtain ⟨v0, v1, v2, v3, v4, d0, d1, d2, d3, d4, p0, p1, p2, p3, p4, rfl, rfl, rfl, h0, h1, h2, h3, h4⟩ := trodAll_five hA'
    have hsz' : (DataW.weightsEach Tryd.prog [23, 9, 3, 3, 3] [d0, d1, d2, d3, d4]).all (· ≤ reachBytes) = true := hsz
    obtain ⟨x0, rfl, k0⟩ := arg_arr (k := .u8) (m := 8) (e := 5) (by kernel_rfl) (rdr_arr (e := 5) (by kernel_rfl) (by kernel_rfl) (by kernel_rfl) (by kernel_rfl)) (hval 0 23 v0 rfl rfl) h0 (weights_at hsz' 0 rfl rfl)
    obtain ⟨x1, rfl, rfl, k1⟩ := arg_str_d (by kernel_rfl) (hval 1 9 v1 rfl rfl) h1 (weights_at hsz' 1 rfl rfl)
    obtain ⟨x2, rfl, k2⟩ := arg_int (k := .i64) (by kernel_rfl) (hval 2 3 v2 rfl rfl) h2
    obtain ⟨x3, rfl, k3⟩ := arg_int (k := .i64) (by kernel_rfl) (hval 3 3 v3 rfl rfl) h3
    obtain ⟨x4, rfl, k4⟩ := arg_int (k := .i64) (by kernel_rfl) (hval 4 3 v4 rfl rfl) h4
    have hb : Rows.uptoBulkAll [d0, (DataW.lit (.string x1) : DataW H), d2, d3, d4] ≤ 1048576 := of_decide_eq_true hk
    simp only [Rows.uptoBulkAll, Rows.uptoBulk] at hb
    obtain ⟨k, hk⟩ := RdBack.law x0 k0 x1 k1 (by omega) x2 k2 x3 k3 x4 k4
    exact (vinerylaw03_RdBack.walk W [] (MS.nil _) hG _ _ _ _ _ k true hk).mono fun v W' ⟨hv, hc, _⟩ => ⟨hv, hc⟩
theorem RdBackUpto_holds : Rows.RdBackUptoSaid :=
  OpenClaim.holds_of_cond 3 Tryd.f3 rfl rfl rfl rfl rfl rfl rfl ⟨rfl, rfl, rfl, rfl, rfl⟩ rfl rfl rfl rfl rfl (by kernel_rfl) Tryd.func3 (by kernel_rfl)
    (of_decide_eq_true (by kernel_rfl)) (by unfold Func.isWrapper; first | (rw [if_pos (by decide +kernel)]; kernel_rfl) | (rw [if_neg (by decide +kernel)]; exact ⟨rfl, rfl⟩))
    (fun os started H enc _ F => by rw [OpenClaim.pre_eq_preRow]; exact RdBack_lifted os started H enc F)
theorem RdBackUptoCard_holds : Rows.RdBackUptoCardSaid :=
  Claim7.holds_tied_plain_at .later [] [.data, .data, .data, .data, .pinned] true (true, "4509b25c7d1b89076d1da5409a66c7ce7027366c047bcf639bf00b610aa81ab8") false RdBackUpto_holds (fun _ h => by cases h) (by kernel_rfl) (fun _ h => by cases h) rdBackUpto_row_tie rfl ⟨rfl, rfl⟩ (by kernel_rfl) rfl
    (fun f fn hf hfn => by
      obtain rfl : f = 3 := Option.some.inj ((show Tryd.prog.funcNamed "vinery/vinerylaw03.RdBack" = some 3 by kernel_rfl).symm.trans hf) |>.symm
      obtain rfl : fn = Tryd.f3 := (Option.some.inj (Tryd.func3.symm.trans hfn)).symm
      exact ⟨by kernel_rfl, fun j t ht => by
        rw [Tryd.params3] at ht
        have hm : t ∈ [23, 9, 3, 3, 3] := by simpa using Array.mem_of_getElem? ht
        have hall : ([23, 9, 3, 3, 3].all fun u => !Tryd.prog.wantsStandIn u) = true := by kernel_rfl
        exact (show Tryd.prog.wantsStandIn t = false by simpa using List.all_eq_true.1 hall t hm)⟩)
    (by kernel_rfl)
end Go.Proofs.YtilmdjjeakileaaDoor
