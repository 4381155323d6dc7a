/- Texts of distinguishers, and back, are the answers of the document. Where what it reads is of bulk at most 1048576. -/
import Derived.Test.YtilmdjjeakileaaGreatDoorLawRdTexts
import Derived.Test.YtilmdjjeakileaaGreatDoorEngW
import Derived.Test.YtilmdjjeakileaaGreatDoorRows
import Derived.Test.YtilmdjjeakileaaGreatDoorCards
import Derived.Test.YtilmdjjeakileaaGreatDoorTie
set_option linter.unusedVariables false
set_option linter.unusedSimpArgs false
namespace Go.Proofs.YtilmdjjeakileaaGreatDoor
open Go.E Go.ChangeShapes Go.WideShapes Go.ChangeAt Go.RowKit
theorem RdTexts_own : ownKnob Tryz.prog.godebug = none := by kernel_rfl
theorem RdTexts_laidOut : laidOutB Tryz.prog = true := by kernel_rfl
set_option maxRecDepth 100000 in
theorem RdTexts_lifted (os : Os) (started : os.Started) (H : Type) (enc : TypeId × Value → H) (F : Stop.Interp) :
    ReturnsInHanded {} Tryz.checked os 3 .any ((Rows.OpenSpec.upto Rows.rdTextsSpec).preRow enc Tryz.prog Tryz.f3 Rows.rdTextsUptoRow.domain false Rows.rdTextsUptoRow.laid) (((Rows.OpenSpec.upto Rows.rdTextsSpec).at F).post enc Tryz.prog Tryz.f3 false true false false) := by
  refine lift_row (C := Tryz.checked) (tb := 4) (s := Rows.rdTextsSpec) (k := Rows.uptoSmall) (laid := Rows.rdTextsUptoRow.laid) RdTexts_own started (by kernel_rfl) Tryz.func3
    (witness_row_shaped (enc := enc) (C := Tryz.checked) (os := os) (s := (Rows.OpenSpec.upto Rows.rdTextsSpec)) false (World.laidAll Tryz.prog os Rows.rdTextsUptoRow.laid) #[.agg (cA .u8 8 (List.replicate 8 (0 : Int))).toArray, .string ⟨#[]⟩] (World.laidAll_os _ _ _) (World.shaped_of_ZipB (by kernel_rfl) (by kernel_rfl)) (by kernel_rfl)
      (preRow_of_get 8 (by kernel_rfl) (by kernel_rfl) (fun k hk => by cases hk; kernel_rfl) (by kernel_rfl) (by rw [MakeChecks.laidMetH_plain _ _ _ (by kernel_rfl)]; exact laidMet_laidAll _ (by kernel_rfl) (by kernel_rfl))))
    RdTexts_laidOut (by kernel_rfl) (by kernel_rfl) (by kernel_rfl) rfl (fun ds h => ?_) ?_
  · rw [Tryz.params3] at h
    match ds, h with
    | [_, _], _ => rfl
  · intro W base args ds p hval hA hsz hk hL hsh
    rw [MakeChecks.laidMetH_plain _ _ _ (by kernel_rfl)] at hL
    have L0 : laidMet Tryz.prog (("math/bits.deBruijn32tab", Rows.laid_math_bits_deBruijn32tab) :: Rows.rdTextsUptoRow.laid.drop 1) W := hL
    have L1 : laidMet Tryz.prog (("math/bits.deBruijn64tab", Lib.tabData .u8 dbTab) :: Rows.rdTextsUptoRow.laid.drop 2) W := L0.tail
    have L2 : laidMet Tryz.prog (("internal/strconv.uint64pow10", Lib.tabData .u64 Lib.pow10Tab) :: Rows.rdTextsUptoRow.laid.drop 3) W := L1.tail
    have L3 : laidMet Tryz.prog (("unicode/utf8.acceptRanges", Rows.laid_unicode_utf8_acceptRanges) :: Rows.rdTextsUptoRow.laid.drop 4) W := L2.tail
    have L4 : laidMet Tryz.prog (("unicode/utf8.first", Rows.laid_unicode_utf8_first) :: Rows.rdTextsUptoRow.laid.drop 5) W := L3.tail
    have hG : GF W [] := ⟨⟨Lib.tabIs_of_head (g := 1) (t := 208) (e := 182) (n := 20) (by kernel_rfl) (by kernel_rfl) (by kernel_rfl) (by kernel_rfl) (by kernel_rfl) (by kernel_rfl) L2, by simp⟩, ⟨Lib.tabIs_of_head (g := 5) (t := 232) (e := 5) (n := 64) (by kernel_rfl) (by kernel_rfl) (by kernel_rfl) (by kernel_rfl) (by kernel_rfl) (by kernel_rfl) L1, by simp⟩, ⟨Go.Proofs.cell_of_shapedOpen_int (g := 0) (t := 3) (zero := #[.int .i64 0]) hsh (of_decide_eq_true (by kernel_rfl)) (by kernel_rfl) rfl (by kernel_rfl) (by kernel_rfl) (by kernel_rfl), by simp⟩⟩
    rw [Tryz.params3] at hval
    have hA' : DataW.TrodAll enc Tryz.prog W 0 (fun _ => true) true [23, 9] args.toList ds p := hA
    obtain ⟨v0, v1, d0, d1, p0, p1, rfl, rfl, rfl, h0, h1⟩ := trodAll_two hA'
    have hsz' : (DataW.weightsEach Tryz.prog [23, 9] [d0, d1]).all (· ≤ reachBytes) = true := hsz
    obtain ⟨x0, rfl, k0⟩ := arg_arr (k := .u8) (m := 8) (e := 5) (by kernel_rfl) (rdr_arr (e := 5) (by kernel_rfl) (by kernel_rfl) (by kernel_rfl) (by kernel_rfl)) (hval 0 23 v0 rfl rfl) h0 (weights_at hsz' 0 rfl rfl)
    obtain ⟨x1, rfl, rfl, k1⟩ := arg_str_d (by kernel_rfl) (hval 1 9 v1 rfl rfl) h1 (weights_at hsz' 1 rfl rfl)
    have hb : Rows.uptoBulkAll [d0, (DataW.lit (.string x1) : DataW H)] ≤ 1048576 := of_decide_eq_true hk
    simp only [Rows.uptoBulkAll, Rows.uptoBulk] at hb
    obtain ⟨k, hk⟩ := RdTexts.law x0 k0 x1 k1 (by omega)
    exact (vinerylaw03_RdTexts.walk W [] (MS.nil _) hG _ _ k true hk).mono fun v W' ⟨hv, hc, _⟩ => ⟨hv, hc⟩
theorem RdTextsUpto_holds : Rows.RdTextsUptoSaid :=
  OpenClaim.holds_of_cond 3 Tryz.f3 rfl rfl rfl rfl rfl rfl rfl ⟨rfl, rfl, rfl, rfl, rfl⟩ rfl rfl rfl rfl rfl (by kernel_rfl) Tryz.func3 (by kernel_rfl)
    (of_decide_eq_true (by kernel_rfl)) (by unfold Func.isWrapper; first | (rw [if_pos (by decide +kernel)]; kernel_rfl) | (rw [if_neg (by decide +kernel)]; exact ⟨rfl, rfl⟩))
    (fun os started H enc _ F => by rw [OpenClaim.pre_eq_preRow]; exact RdTexts_lifted os started H enc F)
theorem RdTextsUptoCard_holds : Rows.RdTextsUptoCardSaid :=
  Claim7.holds_tied_plain_at .later [] [.data, .data, .data, .data, .pinned] true (true, "0ac019aa7f81de1564010a0cfec2a66b2cdb0ac6e65f5bfb295d9086a08d3786") false RdTextsUpto_holds (fun _ h => by cases h) (by kernel_rfl) (fun _ h => by cases h) rdTextsUpto_row_tie rfl ⟨rfl, rfl⟩ (by kernel_rfl) rfl
    (fun f fn hf hfn => by
      obtain rfl : f = 3 := Option.some.inj ((show Tryz.prog.funcNamed "vinery/vinerylaw03.RdTexts" = some 3 by kernel_rfl).symm.trans hf) |>.symm
      obtain rfl : fn = Tryz.f3 := (Option.some.inj (Tryz.func3.symm.trans hfn)).symm
      exact ⟨by kernel_rfl, fun j t ht => by
        rw [Tryz.params3] at ht
        have hm : t ∈ [23, 9] := by simpa using Array.mem_of_getElem? ht
        have hall : ([23, 9].all fun u => !Tryz.prog.wantsStandIn u) = true := by kernel_rfl
        exact (show Tryz.prog.wantsStandIn t = false by simpa using List.all_eq_true.1 hall t hm)⟩)
    (by kernel_rfl)
end Go.Proofs.YtilmdjjeakileaaGreatDoor
