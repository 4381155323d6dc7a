/- Texts and communities are each other's; what was made tells what it was made of; rows and bytes are each other's: for texts of at most 2^20 signs. Where what it reads is of bulk at most 1048576. -/
import Derived.Test.YtcejhnpncodkjaaGreatDoorLawCommunityBack
import Derived.Test.YtcejhnpncodkjaaGreatDoorEngW
import Derived.Test.YtcejhnpncodkjaaGreatDoorRows
import Derived.Test.YtcejhnpncodkjaaGreatDoorCards
import Derived.Test.YtcejhnpncodkjaaGreatDoorTie
set_option linter.unusedVariables false
set_option linter.unusedSimpArgs false
namespace Go.Proofs.YtcejhnpncodkjaaGreatDoor
open Go.E Go.ChangeShapes Go.WideShapes Go.ChangeAt Go.RowKit
theorem CommunityBack_own : ownKnob Tryz.prog.godebug = none := by kernel_rfl
theorem CommunityBack_laidOut : laidOutB Tryz.prog = true := by kernel_rfl
theorem rdrS_api_Addr : Rdr Tryz.prog 24 rS_api_Addr okS_api_Addr :=
  rdr_struct (by kernel_rfl) (by kernel_rfl) (rdrf_cons (t := 3) (rdr_int (by kernel_rfl) (by kernel_rfl)) (rdrf_last (t := 22) (rdr_arr (e := 5) (by kernel_rfl) (by kernel_rfl) (by kernel_rfl) (by kernel_rfl)))) (fun x : S_api_Addr => (x.Size, x.B)) (fun y => ⟨⟨y.1, y.2⟩, rfl, fun h => ⟨h.1, h.2⟩⟩)
set_option maxRecDepth 100000 in
theorem CommunityBack_lifted (os : Os) (started : os.Started) (H : Type) (enc : TypeId × Value → H) (F : Stop.Interp) :
    ReturnsInHanded {} Tryz.checked os 7 .any ((Rows.OpenSpec.upto Rows.communityBackSpec).preRow enc Tryz.prog Tryz.f7 Rows.communityBackUptoRow.domain false Rows.communityBackUptoRow.laid) (((Rows.OpenSpec.upto Rows.communityBackSpec).at F).post enc Tryz.prog Tryz.f7 false true false false) := by
  refine lift_row (C := Tryz.checked) (tb := 4) (s := Rows.communityBackSpec) (k := Rows.uptoSmall) (laid := Rows.communityBackUptoRow.laid) CommunityBack_own started (by kernel_rfl) Tryz.func7
    (witness_row_shaped (enc := enc) (C := Tryz.checked) (os := os) (s := (Rows.OpenSpec.upto Rows.communityBackSpec)) false (World.laidAll Tryz.prog os Rows.communityBackUptoRow.laid) #[.agg (cA .u8 8 (List.replicate 8 (0 : Int))).toArray, .string ⟨#[]⟩, .agg (cS_api_Addr (⟨(0 : Int), (List.replicate 16 (0 : Int))⟩ : S_api_Addr)).toArray, .int .i64 0, .slice none 0 0] (World.laidAll_os _ _ _) (World.shaped_of_ZipB (by kernel_rfl) (by kernel_rfl)) (by kernel_rfl)
      (preRow_of_get 8 (by kernel_rfl) (by kernel_rfl) (fun k hk => by cases hk; kernel_rfl) (by kernel_rfl) (by rw [MakeChecks.laidMetH_plain _ _ _ (by kernel_rfl)]; exact laidMet_laidAll _ (by kernel_rfl) (by kernel_rfl))))
    CommunityBack_laidOut (by kernel_rfl) (by kernel_rfl) (by kernel_rfl) rfl (fun ds h => ?_) ?_
  · rw [Tryz.params7] at h
    match ds, h with
    | [_, _, _, _, _], _ => rfl
  · intro W base args ds p hval hA hsz hk hL hsh
    rw [MakeChecks.laidMetH_plain _ _ _ (by kernel_rfl)] at hL
    have L0 : laidMet Tryz.prog (("math/bits.deBruijn32tab", Rows.laid_math_bits_deBruijn32tab) :: Rows.communityBackUptoRow.laid.drop 1) W := hL
    have L1 : laidMet Tryz.prog (("math/bits.deBruijn64tab", Lib.tabData .u8 dbTab) :: Rows.communityBackUptoRow.laid.drop 2) W := L0.tail
    have L2 : laidMet Tryz.prog (("internal/strconv.uint64pow10", Lib.tabData .u64 Lib.pow10Tab) :: Rows.communityBackUptoRow.laid.drop 3) W := L1.tail
    have L3 : laidMet Tryz.prog (("unicode/utf8.acceptRanges", Rows.laid_unicode_utf8_acceptRanges) :: Rows.communityBackUptoRow.laid.drop 4) W := L2.tail
    have L4 : laidMet Tryz.prog (("unicode/utf8.first", Rows.laid_unicode_utf8_first) :: Rows.communityBackUptoRow.laid.drop 5) W := L3.tail
    have hG : GF W [] := ⟨⟨Lib.tabIs_of_head (g := 1) (t := 194) (e := 139) (n := 20) (by kernel_rfl) (by kernel_rfl) (by kernel_rfl) (by kernel_rfl) (by kernel_rfl) (by kernel_rfl) L2, by simp⟩, ⟨Lib.tabIs_of_head (g := 5) (t := 202) (e := 5) (n := 64) (by kernel_rfl) (by kernel_rfl) (by kernel_rfl) (by kernel_rfl) (by kernel_rfl) (by kernel_rfl) L1, by simp⟩, ⟨Go.Proofs.cell_of_shapedOpen_int (g := 0) (t := 3) (zero := #[.int .i64 0]) hsh (of_decide_eq_true (by kernel_rfl)) (by kernel_rfl) rfl (by kernel_rfl) (by kernel_rfl) (by kernel_rfl), by simp⟩⟩
    rw [Tryz.params7] at hval
    have hA' : DataW.TrodAll enc Tryz.prog W 0 (fun _ => true) true [27, 9, 24, 3, 34] args.toList ds p := hA
    obtain ⟨v0, v1, v2, v3, v4, d0, d1, d2, d3, d4, p0, p1, p2, p3, p4, rfl, rfl, rfl, h0, h1, h2, h3, h4⟩ := trodAll_five hA'
    have hsz' : (DataW.weightsEach Tryz.prog [27, 9, 24, 3, 34] [d0, d1, d2, d3, d4]).all (· ≤ reachBytes) = true := hsz
    obtain ⟨x0, rfl, k0⟩ := arg_arr (k := .u8) (m := 8) (e := 5) (by kernel_rfl) (rdr_arr (e := 5) (by kernel_rfl) (by kernel_rfl) (by kernel_rfl) (by kernel_rfl)) (hval 0 27 v0 rfl rfl) h0 (weights_at hsz' 0 rfl rfl)
    obtain ⟨x1, rfl, rfl, k1⟩ := arg_str_d (by kernel_rfl) (hval 1 9 v1 rfl rfl) h1 (weights_at hsz' 1 rfl rfl)
    obtain ⟨x2, cs2, rfl, R2, k2⟩ := arg_struct Tryz.underlying24 rdrS_api_Addr (hval 2 24 v2 rfl rfl) h2 (weights_at hsz' 2 rfl rfl)
    obtain rfl := rS_api_Addr.open R2
    obtain ⟨x3, rfl, k3⟩ := arg_int (k := .i64) (by kernel_rfl) (hval 3 3 v3 rfl rfl) h3
    obtain ⟨x4, ao4, cap4, rfl, R4, k4⟩ := arg_slice (by kernel_rfl) (rdr_slice (by kernel_rfl) (by kernel_rfl) (nb := 8) (by kernel_rfl) (rdr_arr (e := 5) (by kernel_rfl) (by kernel_rfl) (by kernel_rfl) (by kernel_rfl)) (by kernel_rfl)) (hval 4 34 v4 rfl rfl) h4 (weights_at hsz' 4 rfl rfl)
    have hb : Rows.uptoBulkAll [d0, (DataW.lit (.string x1) : DataW H), d2, d3, d4] ≤ 1048576 := of_decide_eq_true hk
    simp only [Rows.uptoBulkAll, Rows.uptoBulk] at hb
    obtain ⟨k, hk⟩ := CommunityBack.law x0 k0 x1 k1 (by omega) x2 k2 x3 k3 x4 k4
    exact (vinerylaw04_CommunityBack.walk W [] (MS.nil _) hG _ _ _ _ _ _ _ R4 k true hk).mono fun v W' ⟨hv, hc, _⟩ => ⟨hv, hc⟩
theorem CommunityBackUpto_holds : Rows.CommunityBackUptoSaid :=
  OpenClaim.holds_of_cond 7 Tryz.f7 rfl rfl rfl rfl rfl rfl rfl ⟨rfl, rfl, rfl, rfl, rfl⟩ rfl rfl rfl rfl rfl (by kernel_rfl) Tryz.func7 (by kernel_rfl)
    (of_decide_eq_true (by kernel_rfl)) (by unfold Func.isWrapper; first | (rw [if_pos (by decide +kernel)]; kernel_rfl) | (rw [if_neg (by decide +kernel)]; exact ⟨rfl, rfl⟩))
    (fun os started H enc _ F => by rw [OpenClaim.pre_eq_preRow]; exact CommunityBack_lifted os started H enc F)
theorem CommunityBackUptoCard_holds : Rows.CommunityBackUptoCardSaid :=
  Claim7.holds_tied_plain_at .later [] [.data, .data, .data, .data, .pinned] true (true, "e112c264b226efb69c5e2aad770e94a9ea8cd56d281c82f6454c32295f9e8806") false CommunityBackUpto_holds (fun _ h => by cases h) (by kernel_rfl) (fun _ h => by cases h) communityBackUpto_row_tie rfl ⟨rfl, rfl⟩ (by kernel_rfl) rfl
    (fun f fn hf hfn => by
      obtain rfl : f = 7 := Option.some.inj ((show Tryz.prog.funcNamed "vinery/vinerylaw04.CommunityBack" = some 7 by kernel_rfl).symm.trans hf) |>.symm
      obtain rfl : fn = Tryz.f7 := (Option.some.inj (Tryz.func7.symm.trans hfn)).symm
      exact ⟨by kernel_rfl, fun j t ht => by
        rw [Tryz.params7] at ht
        have hm : t ∈ [27, 9, 24, 3, 34] := by simpa using Array.mem_of_getElem? ht
        have hall : ([27, 9, 24, 3, 34].all fun u => !Tryz.prog.wantsStandIn u) = true := by kernel_rfl
        exact (show Tryz.prog.wantsStandIn t = false by simpa using List.all_eq_true.1 hall t hm)⟩)
    (by kernel_rfl)
end Go.Proofs.YtcejhnpncodkjaaGreatDoor
