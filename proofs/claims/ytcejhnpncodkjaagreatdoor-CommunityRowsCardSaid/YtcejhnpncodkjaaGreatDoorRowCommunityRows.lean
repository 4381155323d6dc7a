/- Sets, what two have in common, and rows in bytes are the document's. -/
import Derived.Test.YtcejhnpncodkjaaGreatDoorLawCommunityRows
import Derived.Test.YtcejhnpncodkjaaGreatDoorEngV
import Derived.Test.YtcejhnpncodkjaaGreatDoorRows
import Derived.Test.YtcejhnpncodkjaaGreatDoorCards
import Derived.Test.YtcejhnpncodkjaaGreatDoorTie
set_option linter.unusedVariables false
set_option linter.unusedSimpArgs false
namespace Go.Proofs.YtcejhnpncodkjaaGreatDoor
open Go.E Go.ChangeShapes Go.WideShapes Go.ChangeAt Go.RowKit
theorem CommunityRows_own : ownKnob Tryz.prog.godebug = none := by kernel_rfl
theorem CommunityRows_laidOut : laidOutB Tryz.prog = true := by kernel_rfl
set_option maxRecDepth 100000 in
theorem CommunityRows_lifted (os : Os) (started : os.Started) (H : Type) (enc : TypeId × Value → H) :
    ReturnsInHanded {} Tryz.checked os 5 .any (fun w args => (Rows.communityRowsSpec.pre enc Tryz.prog Tryz.f5 Rows.communityRowsRow.domain false w args ∧ laidMetH Tryz.prog Rows.communityRowsRow.laid w) ∧ sizedMet enc Tryz.prog Tryz.f5 (OpenSpec.ofChange Rows.communityRowsSpec) false w args) (Rows.communityRowsSpec.post enc Tryz.prog Tryz.f5 false true false false) := by
  refine lift_laid_sh (C := Tryz.checked) (tb := 4) (laid := Rows.communityRowsRow.laid) CommunityRows_own started (by kernel_rfl) Tryz.func5
    (ChangeSpec.witness_shaped (enc := enc) (C := Tryz.checked) (os := os) (X := fun w _ => laidMetH Tryz.prog Rows.communityRowsRow.laid w) false (World.laidAll Tryz.prog os Rows.communityRowsRow.laid) #[.slice none 0 0, .slice none 0 0, .slice none 0 0] 8 (World.laidAll_os _ _ _) (World.shaped_of_ZipB (by kernel_rfl) (by kernel_rfl)) (by kernel_rfl) (by kernel_rfl) (by kernel_rfl)
      (by rw [MakeChecks.laidMetH_plain _ _ _ (by kernel_rfl)]; exact laidMet_laidAll _ (by kernel_rfl) (by kernel_rfl)))
    CommunityRows_laidOut (by kernel_rfl) (by kernel_rfl) (by kernel_rfl) rfl (fun ds h => ?_) ?_
  · rw [Tryz.params5] at h
    match ds, h with
    | [_, _, _], _ => rfl
  · intro W base args ds p hval hA hsz _ hL hsh
    rw [MakeChecks.laidMetH_plain _ _ _ (by kernel_rfl)] at hL
    have L0 : laidMet Tryz.prog (("math/bits.deBruijn32tab", Rows.laid_math_bits_deBruijn32tab) :: Rows.communityRowsRow.laid.drop 1) W := hL
    have L1 : laidMet Tryz.prog (("math/bits.deBruijn64tab", Lib.tabData .u8 dbTab) :: Rows.communityRowsRow.laid.drop 2) W := L0.tail
    have L2 : laidMet Tryz.prog (("internal/strconv.uint64pow10", Lib.tabData .u64 Lib.pow10Tab) :: Rows.communityRowsRow.laid.drop 3) W := L1.tail
    have L3 : laidMet Tryz.prog (("unicode/utf8.acceptRanges", Rows.laid_unicode_utf8_acceptRanges) :: Rows.communityRowsRow.laid.drop 4) W := L2.tail
    have L4 : laidMet Tryz.prog (("unicode/utf8.first", Rows.laid_unicode_utf8_first) :: Rows.communityRowsRow.laid.drop 5) W := L3.tail
    have hG : GF W [] := ⟨⟨Lib.tabIs_of_head (g := 1) (t := 194) (e := 139) (n := 20) (by kernel_rfl) (by kernel_rfl) (by kernel_rfl) (by kernel_rfl) (by kernel_rfl) (by kernel_rfl) L2, by simp⟩, ⟨Lib.tabIs_of_head (g := 5) (t := 202) (e := 5) (n := 64) (by kernel_rfl) (by kernel_rfl) (by kernel_rfl) (by kernel_rfl) (by kernel_rfl) (by kernel_rfl) L1, by simp⟩, ⟨Go.Proofs.cell_of_shapedOpen_int (g := 0) (t := 3) (zero := #[.int .i64 0]) hsh (of_decide_eq_true (by kernel_rfl)) (by kernel_rfl) rfl (by kernel_rfl) (by kernel_rfl) (by kernel_rfl), by simp⟩⟩
    rw [Tryz.params5] at hval
    have hA' : DataW.TrodAll enc Tryz.prog W 0 (fun _ => true) true [34, 34, 36] args.toList ds p := hA
    obtain ⟨v0, v1, v2, d0, d1, d2, p0, p1, p2, rfl, rfl, rfl, h0, h1, h2⟩ := trodAll_three hA'
    have hsz' : (DataW.weightsEach Tryz.prog [34, 34, 36] [d0, d1, d2]).all (· ≤ reachBytes) = true := hsz
    obtain ⟨x0, ao0, cap0, rfl, R0, k0⟩ := arg_slice (by kernel_rfl) (rdr_slice (by kernel_rfl) (by kernel_rfl) (nb := 8) (by kernel_rfl) (rdr_arr (e := 5) (by kernel_rfl) (by kernel_rfl) (by kernel_rfl) (by kernel_rfl)) (by kernel_rfl)) (hval 0 34 v0 rfl rfl) h0 (weights_at hsz' 0 rfl rfl)
    obtain ⟨x1, ao1, cap1, rfl, R1, k1⟩ := arg_slice (by kernel_rfl) (rdr_slice (by kernel_rfl) (by kernel_rfl) (nb := 8) (by kernel_rfl) (rdr_arr (e := 5) (by kernel_rfl) (by kernel_rfl) (by kernel_rfl) (by kernel_rfl)) (by kernel_rfl)) (hval 1 34 v1 rfl rfl) h1 (weights_at hsz' 1 rfl rfl)
    obtain ⟨x2, ao2, cap2, rfl, R2, k2⟩ := arg_slice (by kernel_rfl) (rdr_slice (by kernel_rfl) (by kernel_rfl) (nb := 1) (by kernel_rfl) (rdr_int (by kernel_rfl) (by kernel_rfl)) (by kernel_rfl)) (hval 2 36 v2 rfl rfl) h2 (weights_at hsz' 2 rfl rfl)
    obtain ⟨k, hk⟩ := CommunityRows.law x0 k0 x1 k1 x2 k2
    exact (vinerylaw04_CommunityRows.walk W [] (MS.nil _) hG _ _ _ R0 _ _ _ R1 _ _ _ R2 k true hk).mono fun v W' ⟨hv, hc, _⟩ => ⟨hv, hc⟩
theorem CommunityRows_holds : Rows.CommunityRowsSaid :=
  OpenClaim.holds_of_wide 5 Tryz.f5 rfl rfl rfl rfl rfl rfl rfl ⟨rfl, rfl, rfl, rfl, rfl⟩ rfl rfl rfl rfl rfl (by kernel_rfl) Tryz.func5 (by kernel_rfl)
    (of_decide_eq_true (by kernel_rfl)) (by unfold Func.isWrapper; first | (rw [if_pos (by decide +kernel)]; kernel_rfl) | (rw [if_neg (by decide +kernel)]; exact ⟨rfl, rfl⟩))
    (fun os started H enc _ => CommunityRows_lifted os started H enc)
theorem CommunityRowsCard_holds : Rows.CommunityRowsCardSaid :=
  Claim7.holds_tied_plain_at .later [] [.data, .data, .data, .data, .pinned] true (true, "e112c264b226efb69c5e2aad770e94a9ea8cd56d281c82f6454c32295f9e8806") false CommunityRows_holds (fun _ h => by cases h) (by kernel_rfl) (fun _ h => by cases h) communityRows_row_tie rfl ⟨rfl, rfl⟩ (by kernel_rfl) rfl
    (fun f fn hf hfn => by
      obtain rfl : f = 5 := Option.some.inj ((show Tryz.prog.funcNamed "vinery/vinerylaw04.CommunityRows" = some 5 by kernel_rfl).symm.trans hf) |>.symm
      obtain rfl : fn = Tryz.f5 := (Option.some.inj (Tryz.func5.symm.trans hfn)).symm
      exact ⟨by kernel_rfl, fun j t ht => by
        rw [Tryz.params5] at ht
        have hm : t ∈ [34, 34, 36] := by simpa using Array.mem_of_getElem? ht
        have hall : ([34, 34, 36].all fun u => !Tryz.prog.wantsStandIn u) = true := by kernel_rfl
        exact (show Tryz.prog.wantsStandIn t = false by simpa using List.all_eq_true.1 hall t hm)⟩)
    (by kernel_rfl)
end Go.Proofs.YtcejhnpncodkjaaGreatDoor
