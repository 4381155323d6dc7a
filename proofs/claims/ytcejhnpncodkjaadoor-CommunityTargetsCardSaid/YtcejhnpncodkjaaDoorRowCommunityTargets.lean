/- A target is a target, whatever its numbers, and meets itself; no import and no source does. -/
import Derived.Test.YtcejhnpncodkjaaDoorLawCommunityTargets
import Derived.Test.YtcejhnpncodkjaaDoorEngV
import Derived.Test.YtcejhnpncodkjaaDoorRows
import Derived.Test.YtcejhnpncodkjaaDoorCards
import Derived.Test.YtcejhnpncodkjaaDoorTie
set_option linter.unusedVariables false
set_option linter.unusedSimpArgs false
namespace Go.Proofs.YtcejhnpncodkjaaDoor
open Go.E Go.ChangeShapes Go.WideShapes Go.ChangeAt Go.RowKit
theorem CommunityTargets_own : ownKnob Tryd.prog.godebug = none := by kernel_rfl
theorem CommunityTargets_laidOut : laidOutB Tryd.prog = true := by kernel_rfl
theorem rdrS_api_Addr : Rdr Tryd.prog 24 rS_api_Addr okS_api_Addr :=
  rdr_struct (by kernel_rfl) (by kernel_rfl) (rdrf_cons (t := 3) (rdr_int (by kernel_rfl) (by kernel_rfl)) (rdrf_last (t := 22) (rdr_arr (e := 5) (by kernel_rfl) (by kernel_rfl) (by kernel_rfl) (by kernel_rfl)))) (fun x : S_api_Addr => (x.Size, x.B)) (fun y => ⟨⟨y.1, y.2⟩, rfl, fun h => ⟨h.1, h.2⟩⟩)
set_option maxRecDepth 100000 in
theorem CommunityTargets_lifted (os : Os) (started : os.Started) (H : Type) (enc : TypeId × Value → H) :
    ReturnsInHanded {} Tryd.checked os 3 .any (fun w args => (Rows.communityTargetsSpec.pre enc Tryd.prog Tryd.f3 Rows.communityTargetsRow.domain false w args ∧ laidMetH Tryd.prog Rows.communityTargetsRow.laid w) ∧ sizedMet enc Tryd.prog Tryd.f3 (OpenSpec.ofChange Rows.communityTargetsSpec) false w args) (Rows.communityTargetsSpec.post enc Tryd.prog Tryd.f3 false true false false) := by
  refine lift_laid_sh (C := Tryd.checked) (tb := 4) (laid := Rows.communityTargetsRow.laid) CommunityTargets_own started (by kernel_rfl) Tryd.func3
    (ChangeSpec.witness_shaped (enc := enc) (C := Tryd.checked) (os := os) (X := fun w _ => laidMetH Tryd.prog Rows.communityTargetsRow.laid w) false (World.laidAll Tryd.prog os Rows.communityTargetsRow.laid) #[.int .i64 0, .int .i64 0, .int .i64 0, .agg (cS_api_Addr (⟨(0 : Int), (List.replicate 16 (0 : Int))⟩ : S_api_Addr)).toArray, .int .i64 0] 8 (World.laidAll_os _ _ _) (World.shaped_of_ZipB (by kernel_rfl) (by kernel_rfl)) (by kernel_rfl) (by kernel_rfl) (by kernel_rfl)
      (by rw [MakeChecks.laidMetH_plain _ _ _ (by kernel_rfl)]; exact laidMet_laidAll _ (by kernel_rfl) (by kernel_rfl)))
    CommunityTargets_laidOut (by kernel_rfl) (by kernel_rfl) (by kernel_rfl) rfl (fun ds h => ?_) ?_
  · rw [Tryd.params3] at h
    match ds, h with
    | [_, _, _, _, _], _ => rfl
  · intro W base args ds p hval hA hsz _ hL hsh
    rw [MakeChecks.laidMetH_plain _ _ _ (by kernel_rfl)] at hL
    have L0 : laidMet Tryd.prog (("math/bits.deBruijn32tab", Rows.laid_math_bits_deBruijn32tab) :: Rows.communityTargetsRow.laid.drop 1) W := hL
    have L1 : laidMet Tryd.prog (("math/bits.deBruijn64tab", Lib.tabData .u8 dbTab) :: Rows.communityTargetsRow.laid.drop 2) W := L0.tail
    have L2 : laidMet Tryd.prog (("internal/strconv.uint64pow10", Lib.tabData .u64 Lib.pow10Tab) :: Rows.communityTargetsRow.laid.drop 3) W := L1.tail
    have L3 : laidMet Tryd.prog (("unicode/utf8.acceptRanges", Rows.laid_unicode_utf8_acceptRanges) :: Rows.communityTargetsRow.laid.drop 4) W := L2.tail
    have L4 : laidMet Tryd.prog (("unicode/utf8.first", Rows.laid_unicode_utf8_first) :: Rows.communityTargetsRow.laid.drop 5) W := L3.tail
    have hG : GF W [] := ⟨⟨Lib.tabIs_of_head (g := 1) (t := 141) (e := 97) (n := 20) (by kernel_rfl) (by kernel_rfl) (by kernel_rfl) (by kernel_rfl) (by kernel_rfl) (by kernel_rfl) L2, by simp⟩, ⟨Lib.tabIs_of_head (g := 5) (t := 149) (e := 5) (n := 64) (by kernel_rfl) (by kernel_rfl) (by kernel_rfl) (by kernel_rfl) (by kernel_rfl) (by kernel_rfl) L1, by simp⟩, ⟨Go.Proofs.cell_of_shapedOpen_int (g := 0) (t := 3) (zero := #[.int .i64 0]) hsh (of_decide_eq_true (by kernel_rfl)) (by kernel_rfl) rfl (by kernel_rfl) (by kernel_rfl) (by kernel_rfl), by simp⟩⟩
    rw [Tryd.params3] at hval
    have hA' : DataW.TrodAll enc Tryd.prog W 0 (fun _ => true) true [3, 3, 3, 24, 3] args.toList ds p := hA
    obtain ⟨v0, v1, v2, v3, v4, d0, d1, d2, d3, d4, p0, p1, p2, p3, p4, rfl, rfl, rfl, h0, h1, h2, h3, h4⟩ := trodAll_five hA'
    have hsz' : (DataW.weightsEach Tryd.prog [3, 3, 3, 24, 3] [d0, d1, d2, d3, d4]).all (· ≤ reachBytes) = true := hsz
    obtain ⟨x0, rfl, k0⟩ := arg_int (k := .i64) (by kernel_rfl) (hval 0 3 v0 rfl rfl) h0
    obtain ⟨x1, rfl, k1⟩ := arg_int (k := .i64) (by kernel_rfl) (hval 1 3 v1 rfl rfl) h1
    obtain ⟨x2, rfl, k2⟩ := arg_int (k := .i64) (by kernel_rfl) (hval 2 3 v2 rfl rfl) h2
    obtain ⟨x3, cs3, rfl, R3, k3⟩ := arg_struct Tryd.underlying24 rdrS_api_Addr (hval 3 24 v3 rfl rfl) h3 (weights_at hsz' 3 rfl rfl)
    obtain rfl := rS_api_Addr.open R3
    obtain ⟨x4, rfl, k4⟩ := arg_int (k := .i64) (by kernel_rfl) (hval 4 3 v4 rfl rfl) h4
    obtain ⟨k, hk⟩ := CommunityTargets.law x0 k0 x1 k1 x2 k2 x3 k3 x4 k4
    exact (vinerylaw04_CommunityTargets.walk W [] (MS.nil _) hG _ _ _ _ _ k true hk).mono fun v W' ⟨hv, hc, _⟩ => ⟨hv, hc⟩
theorem CommunityTargets_holds : Rows.CommunityTargetsSaid :=
  OpenClaim.holds_of_wide 3 Tryd.f3 rfl rfl rfl rfl rfl rfl rfl ⟨rfl, rfl, rfl, rfl, rfl⟩ rfl rfl rfl rfl rfl (by kernel_rfl) Tryd.func3 (by kernel_rfl)
    (of_decide_eq_true (by kernel_rfl)) (by unfold Func.isWrapper; first | (rw [if_pos (by decide +kernel)]; kernel_rfl) | (rw [if_neg (by decide +kernel)]; exact ⟨rfl, rfl⟩))
    (fun os started H enc _ => CommunityTargets_lifted os started H enc)
theorem CommunityTargetsCard_holds : Rows.CommunityTargetsCardSaid :=
  Claim7.holds_tied_plain_at .later [] [.data, .data, .data, .data, .pinned] true (true, "a740c4eb5468f0d750613b073bbff43f6207a36ed5daa35abd692d8687671b69") false CommunityTargets_holds (fun _ h => by cases h) (by kernel_rfl) (fun _ h => by cases h) communityTargets_row_tie rfl ⟨rfl, rfl⟩ (by kernel_rfl) rfl
    (fun f fn hf hfn => by
      obtain rfl : f = 3 := Option.some.inj ((show Tryd.prog.funcNamed "vinery/vinerylaw04.CommunityTargets" = some 3 by kernel_rfl).symm.trans hf) |>.symm
      obtain rfl : fn = Tryd.f3 := (Option.some.inj (Tryd.func3.symm.trans hfn)).symm
      exact ⟨by kernel_rfl, fun j t ht => by
        rw [Tryd.params3] at ht
        have hm : t ∈ [3, 3, 3, 24, 3] := by simpa using Array.mem_of_getElem? ht
        have hall : ([3, 3, 3, 24, 3].all fun u => !Tryd.prog.wantsStandIn u) = true := by kernel_rfl
        exact (show Tryd.prog.wantsStandIn t = false by simpa using List.all_eq_true.1 hall t hm)⟩)
    (by kernel_rfl)
end Go.Proofs.YtcejhnpncodkjaaDoor
