/- What communities say, their texts and back, whatever the community and the text of at most 1048576 bytes. Where what it reads is of bulk at most 1048576. -/
import Derived.Test.YtcejhnpncodkjaaGreatDoorLawCommunityTells
import Derived.Test.YtcejhnpncodkjaaGreatDoorEngW
import Derived.Test.YtcejhnpncodkjaaGreatDoorRows
import Derived.Test.YtcejhnpncodkjaaGreatDoorCards
import Derived.Test.YtcejhnpncodkjaaGreatDoorTie
set_option linter.unusedVariables false
set_option linter.unusedSimpArgs false
namespace Go.Proofs.YtcejhnpncodkjaaGreatDoor
open Go.E Go.ChangeShapes Go.WideShapes Go.ChangeAt Go.RowKit
theorem CommunityTells_own : ownKnob Tryz.prog.godebug = none := by kernel_rfl
theorem CommunityTells_laidOut : laidOutB Tryz.prog = true := by kernel_rfl
set_option maxRecDepth 100000 in
theorem CommunityTells_lifted (os : Os) (started : os.Started) (H : Type) (enc : TypeId × Value → H) (F : Stop.Interp) :
    ReturnsInHanded {} Tryz.checked os 6 .any ((Rows.OpenSpec.upto Rows.communityTellsSpec).preRow enc Tryz.prog Tryz.f6 Rows.communityTellsUptoRow.domain false Rows.communityTellsUptoRow.laid) (((Rows.OpenSpec.upto Rows.communityTellsSpec).at F).post enc Tryz.prog Tryz.f6 false true false false) := by
  refine lift_row (C := Tryz.checked) (tb := 4) (s := Rows.communityTellsSpec) (k := Rows.uptoSmall) (laid := Rows.communityTellsUptoRow.laid) CommunityTells_own started (by kernel_rfl) Tryz.func6
    (witness_row_shaped (enc := enc) (C := Tryz.checked) (os := os) (s := (Rows.OpenSpec.upto Rows.communityTellsSpec)) false (World.laidAll Tryz.prog os Rows.communityTellsUptoRow.laid) #[.agg (cA .u8 8 (List.replicate 8 (0 : Int))).toArray, .string ⟨#[]⟩] (World.laidAll_os _ _ _) (World.shaped_of_ZipB (by kernel_rfl) (by kernel_rfl)) (by kernel_rfl)
      (preRow_of_get 8 (by kernel_rfl) (by kernel_rfl) (fun k hk => by cases hk; kernel_rfl) (by kernel_rfl) (by rw [MakeChecks.laidMetH_plain _ _ _ (by kernel_rfl)]; exact laidMet_laidAll _ (by kernel_rfl) (by kernel_rfl))))
    CommunityTells_laidOut (by kernel_rfl) (by kernel_rfl) (by kernel_rfl) rfl (fun ds h => ?_) ?_
  · rw [Tryz.params6] at h
    match ds, h with
    | [_, _], _ => rfl
  · intro W base args ds p hval hA hsz hk hL hsh
    rw [MakeChecks.laidMetH_plain _ _ _ (by kernel_rfl)] at hL
    have L0 : laidMet Tryz.prog (("math/bits.deBruijn32tab", Rows.laid_math_bits_deBruijn32tab) :: Rows.communityTellsUptoRow.laid.drop 1) W := hL
    have L1 : laidMet Tryz.prog (("math/bits.deBruijn64tab", Lib.tabData .u8 dbTab) :: Rows.communityTellsUptoRow.laid.drop 2) W := L0.tail
    have L2 : laidMet Tryz.prog (("internal/strconv.uint64pow10", Lib.tabData .u64 Lib.pow10Tab) :: Rows.communityTellsUptoRow.laid.drop 3) W := L1.tail
    have L3 : laidMet Tryz.prog (("unicode/utf8.acceptRanges", Rows.laid_unicode_utf8_acceptRanges) :: Rows.communityTellsUptoRow.laid.drop 4) W := L2.tail
    have L4 : laidMet Tryz.prog (("unicode/utf8.first", Rows.laid_unicode_utf8_first) :: Rows.communityTellsUptoRow.laid.drop 5) W := L3.tail
    have hG : GF W [] := ⟨⟨Lib.tabIs_of_head (g := 1) (t := 194) (e := 139) (n := 20) (by kernel_rfl) (by kernel_rfl) (by kernel_rfl) (by kernel_rfl) (by kernel_rfl) (by kernel_rfl) L2, by simp⟩, ⟨Lib.tabIs_of_head (g := 5) (t := 202) (e := 5) (n := 64) (by kernel_rfl) (by kernel_rfl) (by kernel_rfl) (by kernel_rfl) (by kernel_rfl) (by kernel_rfl) L1, by simp⟩, ⟨Go.Proofs.cell_of_shapedOpen_int (g := 0) (t := 3) (zero := #[.int .i64 0]) hsh (of_decide_eq_true (by kernel_rfl)) (by kernel_rfl) rfl (by kernel_rfl) (by kernel_rfl) (by kernel_rfl), by simp⟩⟩
    rw [Tryz.params6] at hval
    have hA' : DataW.TrodAll enc Tryz.prog W 0 (fun _ => true) true [27, 9] args.toList ds p := hA
    obtain ⟨v0, v1, d0, d1, p0, p1, rfl, rfl, rfl, h0, h1⟩ := trodAll_two hA'
    have hsz' : (DataW.weightsEach Tryz.prog [27, 9] [d0, d1]).all (· ≤ reachBytes) = true := hsz
    obtain ⟨x0, rfl, k0⟩ := arg_arr (k := .u8) (m := 8) (e := 5) (by kernel_rfl) (rdr_arr (e := 5) (by kernel_rfl) (by kernel_rfl) (by kernel_rfl) (by kernel_rfl)) (hval 0 27 v0 rfl rfl) h0 (weights_at hsz' 0 rfl rfl)
    obtain ⟨x1, rfl, rfl, k1⟩ := arg_str_d (by kernel_rfl) (hval 1 9 v1 rfl rfl) h1 (weights_at hsz' 1 rfl rfl)
    have hb : Rows.uptoBulkAll [d0, (DataW.lit (.string x1) : DataW H)] ≤ 1048576 := of_decide_eq_true hk
    simp only [Rows.uptoBulkAll, Rows.uptoBulk] at hb
    obtain ⟨k, hk⟩ := CommunityTells.law x0 k0 x1 k1 (by omega)
    exact (vinerylaw04_CommunityTells.walk W [] (MS.nil _) hG _ _ k true hk).mono fun v W' ⟨hv, hc, _⟩ => ⟨hv, hc⟩
theorem CommunityTellsUpto_holds : Rows.CommunityTellsUptoSaid :=
  OpenClaim.holds_of_cond 6 Tryz.f6 rfl rfl rfl rfl rfl rfl rfl ⟨rfl, rfl, rfl, rfl, rfl⟩ rfl rfl rfl rfl rfl (by kernel_rfl) Tryz.func6 (by kernel_rfl)
    (of_decide_eq_true (by kernel_rfl)) (by unfold Func.isWrapper; first | (rw [if_pos (by decide +kernel)]; kernel_rfl) | (rw [if_neg (by decide +kernel)]; exact ⟨rfl, rfl⟩))
    (fun os started H enc _ F => by rw [OpenClaim.pre_eq_preRow]; exact CommunityTells_lifted os started H enc F)
theorem CommunityTellsUptoCard_holds : Rows.CommunityTellsUptoCardSaid :=
  Claim7.holds_tied_plain_at .later [] [.data, .data, .data, .data, .pinned] true (true, "e112c264b226efb69c5e2aad770e94a9ea8cd56d281c82f6454c32295f9e8806") false CommunityTellsUpto_holds (fun _ h => by cases h) (by kernel_rfl) (fun _ h => by cases h) communityTellsUpto_row_tie rfl ⟨rfl, rfl⟩ (by kernel_rfl) rfl
    (fun f fn hf hfn => by
      obtain rfl : f = 6 := Option.some.inj ((show Tryz.prog.funcNamed "vinery/vinerylaw04.CommunityTells" = some 6 by kernel_rfl).symm.trans hf) |>.symm
      obtain rfl : fn = Tryz.f6 := (Option.some.inj (Tryz.func6.symm.trans hfn)).symm
      exact ⟨by kernel_rfl, fun j t ht => by
        rw [Tryz.params6] at ht
        have hm : t ∈ [27, 9] := by simpa using Array.mem_of_getElem? ht
        have hall : ([27, 9].all fun u => !Tryz.prog.wantsStandIn u) = true := by kernel_rfl
        exact (show Tryz.prog.wantsStandIn t = false by simpa using List.all_eq_true.1 hall t hm)⟩)
    (by kernel_rfl)
end Go.Proofs.YtcejhnpncodkjaaGreatDoor
