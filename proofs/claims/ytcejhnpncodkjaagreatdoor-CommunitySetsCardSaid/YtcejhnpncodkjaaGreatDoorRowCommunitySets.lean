/- Set hangs on what is in it alone, and Meet goes either way round, and is so of sets as of what they are of. -/
import Derived.Test.YtcejhnpncodkjaaGreatDoorLawCommunitySets
import Derived.Test.YtcejhnpncodkjaaGreatDoorEngV
import Derived.Test.YtcejhnpncodkjaaGreatDoorRows
import Derived.Test.YtcejhnpncodkjaaGreatDoorCards
import Derived.Test.YtcejhnpncodkjaaGreatDoorTie
set_option linter.unusedVariables false
set_option linter.unusedSimpArgs false
namespace Go.Proofs.YtcejhnpncodkjaaGreatDoor
open Go.E Go.ChangeShapes Go.WideShapes Go.ChangeAt Go.RowKit
theorem CommunitySets_own : ownKnob Tryz.prog.godebug = none := by kernel_rfl
theorem CommunitySets_laidOut : laidOutB Tryz.prog = true := by kernel_rfl
set_option maxRecDepth 100000 in
theorem CommunitySets_lifted (os : Os) (started : os.Started) (H : Type) (enc : TypeId × Value → H) :
    ReturnsInHanded {} Tryz.checked os 4 .any (fun w args => (Rows.communitySetsSpec.pre enc Tryz.prog Tryz.f4 Rows.communitySetsRow.domain false w args ∧ laidMetH Tryz.prog Rows.communitySetsRow.laid w) ∧ sizedMet enc Tryz.prog Tryz.f4 (OpenSpec.ofChange Rows.communitySetsSpec) false w args) (Rows.communitySetsSpec.post enc Tryz.prog Tryz.f4 false true false false) := by
  refine lift_laid_sh (C := Tryz.checked) (tb := 4) (laid := Rows.communitySetsRow.laid) CommunitySets_own started (by kernel_rfl) Tryz.func4
    (ChangeSpec.witness_shaped (enc := enc) (C := Tryz.checked) (os := os) (X := fun w _ => laidMetH Tryz.prog Rows.communitySetsRow.laid w) false (World.laidAll Tryz.prog os Rows.communitySetsRow.laid) #[.slice none 0 0, .slice none 0 0] 8 (World.laidAll_os _ _ _) (World.shaped_of_ZipB (by kernel_rfl) (by kernel_rfl)) (by kernel_rfl) (by kernel_rfl) (by kernel_rfl)
      (by rw [MakeChecks.laidMetH_plain _ _ _ (by kernel_rfl)]; exact laidMet_laidAll _ (by kernel_rfl) (by kernel_rfl)))
    CommunitySets_laidOut (by kernel_rfl) (by kernel_rfl) (by kernel_rfl) rfl (fun ds h => ?_) ?_
  · rw [Tryz.params4] at h
    match ds, h with
    | [_, _], _ => rfl
  · intro W base args ds p hval hA hsz _ hL hsh
    rw [MakeChecks.laidMetH_plain _ _ _ (by kernel_rfl)] at hL
    have L0 : laidMet Tryz.prog (("math/bits.deBruijn32tab", Rows.laid_math_bits_deBruijn32tab) :: Rows.communitySetsRow.laid.drop 1) W := hL
    have L1 : laidMet Tryz.prog (("math/bits.deBruijn64tab", Lib.tabData .u8 dbTab) :: Rows.communitySetsRow.laid.drop 2) W := L0.tail
    have L2 : laidMet Tryz.prog (("internal/strconv.uint64pow10", Lib.tabData .u64 Lib.pow10Tab) :: Rows.communitySetsRow.laid.drop 3) W := L1.tail
    have L3 : laidMet Tryz.prog (("unicode/utf8.acceptRanges", Rows.laid_unicode_utf8_acceptRanges) :: Rows.communitySetsRow.laid.drop 4) W := L2.tail
    have L4 : laidMet Tryz.prog (("unicode/utf8.first", Rows.laid_unicode_utf8_first) :: Rows.communitySetsRow.laid.drop 5) W := L3.tail
    have hG : GF W [] := ⟨⟨Lib.tabIs_of_head (g := 1) (t := 194) (e := 139) (n := 20) (by kernel_rfl) (by kernel_rfl) (by kernel_rfl) (by kernel_rfl) (by kernel_rfl) (by kernel_rfl) L2, by simp⟩, ⟨Lib.tabIs_of_head (g := 5) (t := 202) (e := 5) (n := 64) (by kernel_rfl) (by kernel_rfl) (by kernel_rfl) (by kernel_rfl) (by kernel_rfl) (by kernel_rfl) L1, by simp⟩, ⟨Go.Proofs.cell_of_shapedOpen_int (g := 0) (t := 3) (zero := #[.int .i64 0]) hsh (of_decide_eq_true (by kernel_rfl)) (by kernel_rfl) rfl (by kernel_rfl) (by kernel_rfl) (by kernel_rfl), by simp⟩⟩
    rw [Tryz.params4] at hval
    have hA' : DataW.TrodAll enc Tryz.prog W 0 (fun _ => true) true [34, 34] args.toList ds p := hA
    obtain ⟨v0, v1, d0, d1, p0, p1, rfl, rfl, rfl, h0, h1⟩ := trodAll_two hA'
    have hsz' : (DataW.weightsEach Tryz.prog [34, 34] [d0, d1]).all (· ≤ reachBytes) = true := hsz
    obtain ⟨x0, ao0, cap0, rfl, R0, k0⟩ := arg_slice (by kernel_rfl) (rdr_slice (by kernel_rfl) (by kernel_rfl) (nb := 8) (by kernel_rfl) (rdr_arr (e := 5) (by kernel_rfl) (by kernel_rfl) (by kernel_rfl) (by kernel_rfl)) (by kernel_rfl)) (hval 0 34 v0 rfl rfl) h0 (weights_at hsz' 0 rfl rfl)
    obtain ⟨x1, ao1, cap1, rfl, R1, k1⟩ := arg_slice (by kernel_rfl) (rdr_slice (by kernel_rfl) (by kernel_rfl) (nb := 8) (by kernel_rfl) (rdr_arr (e := 5) (by kernel_rfl) (by kernel_rfl) (by kernel_rfl) (by kernel_rfl)) (by kernel_rfl)) (hval 1 34 v1 rfl rfl) h1 (weights_at hsz' 1 rfl rfl)
    obtain ⟨k, hk⟩ := CommunitySets.law x0 k0 x1 k1
    exact (vinerylaw04_CommunitySets.walk W [] (MS.nil _) hG _ _ _ R0 _ _ _ R1 k true hk).mono fun v W' ⟨hv, hc, _⟩ => ⟨hv, hc⟩
theorem CommunitySets_holds : Rows.CommunitySetsSaid :=
  OpenClaim.holds_of_wide 4 Tryz.f4 rfl rfl rfl rfl rfl rfl rfl ⟨rfl, rfl, rfl, rfl, rfl⟩ rfl rfl rfl rfl rfl (by kernel_rfl) Tryz.func4 (by kernel_rfl)
    (of_decide_eq_true (by kernel_rfl)) (by unfold Func.isWrapper; first | (rw [if_pos (by decide +kernel)]; kernel_rfl) | (rw [if_neg (by decide +kernel)]; exact ⟨rfl, rfl⟩))
    (fun os started H enc _ => CommunitySets_lifted os started H enc)
theorem CommunitySetsCard_holds : Rows.CommunitySetsCardSaid :=
  Claim7.holds_tied_plain_at .later [] [.data, .data, .data, .data, .pinned] true (true, "e112c264b226efb69c5e2aad770e94a9ea8cd56d281c82f6454c32295f9e8806") false CommunitySets_holds (fun _ h => by cases h) (by kernel_rfl) (fun _ h => by cases h) communitySets_row_tie rfl ⟨rfl, rfl⟩ (by kernel_rfl) rfl
    (fun f fn hf hfn => by
      obtain rfl : f = 4 := Option.some.inj ((show Tryz.prog.funcNamed "vinery/vinerylaw04.CommunitySets" = some 4 by kernel_rfl).symm.trans hf) |>.symm
      obtain rfl : fn = Tryz.f4 := (Option.some.inj (Tryz.func4.symm.trans hfn)).symm
      exact ⟨by kernel_rfl, fun j t ht => by
        rw [Tryz.params4] at ht
        have hm : t ∈ [34, 34] := by simpa using Array.mem_of_getElem? ht
        have hall : ([34, 34].all fun u => !Tryz.prog.wantsStandIn u) = true := by kernel_rfl
        exact (show Tryz.prog.wantsStandIn t = false by simpa using List.all_eq_true.1 hall t hm)⟩)
    (by kernel_rfl)
end Go.Proofs.YtcejhnpncodkjaaGreatDoor
