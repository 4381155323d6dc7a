/- Texts of addresses, and back, are the answers of the document. Where what it reads is of bulk at most 1048576. -/
import Derived.Test.YtkmgglijdfbhpaaDoorLawAddrTexts
import Derived.Test.YtkmgglijdfbhpaaDoorEngW
import Derived.Test.YtkmgglijdfbhpaaDoorRows
import Derived.Test.YtkmgglijdfbhpaaDoorCards
import Derived.Test.YtkmgglijdfbhpaaDoorTie
set_option linter.unusedVariables false
set_option linter.unusedSimpArgs false
namespace Go.Proofs.YtkmgglijdfbhpaaDoor
open Go.E Go.ChangeShapes Go.WideShapes Go.ChangeAt Go.RowKit
theorem AddrTexts_own : ownKnob Tryd.prog.godebug = none := by kernel_rfl
theorem AddrTexts_laidOut : laidOutB Tryd.prog = true := by kernel_rfl
theorem rdrS_api_Addr : Rdr Tryd.prog 24 rS_api_Addr okS_api_Addr :=
  rdr_struct (by kernel_rfl) (by kernel_rfl) (rdrf_cons (t := 3) (rdr_int (by kernel_rfl) (by kernel_rfl)) (rdrf_last (t := 22) (rdr_arr (e := 5) (by kernel_rfl) (by kernel_rfl) (by kernel_rfl) (by kernel_rfl)))) (fun x : S_api_Addr => (x.Size, x.B)) (fun y => ⟨⟨y.1, y.2⟩, rfl, fun h => ⟨h.1, h.2⟩⟩)
set_option maxRecDepth 100000 in
theorem AddrTexts_lifted (os : Os) (started : os.Started) (H : Type) (enc : TypeId × Value → H) (F : Stop.Interp) :
    ReturnsInHanded {} Tryd.checked os 3 .any ((Rows.OpenSpec.upto Rows.addrTextsSpec).preRow enc Tryd.prog Tryd.f3 Rows.addrTextsUptoRow.domain false Rows.addrTextsUptoRow.laid) (((Rows.OpenSpec.upto Rows.addrTextsSpec).at F).post enc Tryd.prog Tryd.f3 false true false false) := by
  refine lift_row (C := Tryd.checked) (tb := 4) (s := Rows.addrTextsSpec) (k := Rows.uptoSmall) (laid := Rows.addrTextsUptoRow.laid) AddrTexts_own started (by kernel_rfl) Tryd.func3
    (witness_row_shaped (enc := enc) (C := Tryd.checked) (os := os) (s := (Rows.OpenSpec.upto Rows.addrTextsSpec)) false (World.laidAll Tryd.prog os Rows.addrTextsUptoRow.laid) #[.agg (cS_api_Addr (⟨(0 : Int), (List.replicate 16 (0 : Int))⟩ : S_api_Addr)).toArray, .string ⟨#[]⟩] (World.laidAll_os _ _ _) (World.shaped_of_ZipB (by kernel_rfl) (by kernel_rfl)) (by kernel_rfl)
      (preRow_of_get 8 (by kernel_rfl) (by kernel_rfl) (fun k hk => by cases hk; kernel_rfl) (by kernel_rfl) (by rw [MakeChecks.laidMetH_plain _ _ _ (by kernel_rfl)]; exact laidMet_laidAll _ (by kernel_rfl) (by kernel_rfl))))
    AddrTexts_laidOut (by kernel_rfl) (by kernel_rfl) (by kernel_rfl) rfl (fun ds h => ?_) ?_
  · rw [Tryd.params3] at h
    match ds, h with
    | [_, _], _ => rfl
  · intro W base args ds p hval hA hsz hk hL hsh
    rw [MakeChecks.laidMetH_plain _ _ _ (by kernel_rfl)] at hL
    have L0 : laidMet Tryd.prog (("math/bits.deBruijn32tab", Rows.laid_math_bits_deBruijn32tab) :: Rows.addrTextsUptoRow.laid.drop 1) W := hL
    have L1 : laidMet Tryd.prog (("math/bits.deBruijn64tab", Lib.tabData .u8 dbTab) :: Rows.addrTextsUptoRow.laid.drop 2) W := L0.tail
    have L2 : laidMet Tryd.prog (("internal/strconv.uint64pow10", Lib.tabData .u64 Lib.pow10Tab) :: Rows.addrTextsUptoRow.laid.drop 3) W := L1.tail
    have L3 : laidMet Tryd.prog (("unicode/utf8.acceptRanges", Rows.laid_unicode_utf8_acceptRanges) :: Rows.addrTextsUptoRow.laid.drop 4) W := L2.tail
    have L4 : laidMet Tryd.prog (("unicode/utf8.first", Rows.laid_unicode_utf8_first) :: Rows.addrTextsUptoRow.laid.drop 5) W := L3.tail
    have hG : GF W [] := ⟨⟨Lib.tabIs_of_head (g := 1) (t := 123) (e := 112) (n := 20) (by kernel_rfl) (by kernel_rfl) (by kernel_rfl) (by kernel_rfl) (by kernel_rfl) (by kernel_rfl) L2, by simp⟩, ⟨Lib.tabIs_of_head (g := 5) (t := 135) (e := 5) (n := 64) (by kernel_rfl) (by kernel_rfl) (by kernel_rfl) (by kernel_rfl) (by kernel_rfl) (by kernel_rfl) L1, by simp⟩, ⟨Go.Proofs.cell_of_shapedOpen_int (g := 0) (t := 3) (zero := #[.int .i64 0]) hsh (of_decide_eq_true (by kernel_rfl)) (by kernel_rfl) rfl (by kernel_rfl) (by kernel_rfl) (by kernel_rfl), by simp⟩⟩
    rw [Tryd.params3] at hval
    have hA' : DataW.TrodAll enc Tryd.prog W 0 (fun _ => true) true [24, 9] args.toList ds p := hA
    obtain ⟨v0, v1, d0, d1, p0, p1, rfl, rfl, rfl, h0, h1⟩ := trodAll_two hA'
    have hsz' : (DataW.weightsEach Tryd.prog [24, 9] [d0, d1]).all (· ≤ reachBytes) = true := hsz
    obtain ⟨x0, cs0, rfl, R0, k0⟩ := arg_struct Tryd.underlying24 rdrS_api_Addr (hval 0 24 v0 rfl rfl) h0 (weights_at hsz' 0 rfl rfl)
    obtain rfl := rS_api_Addr.open R0
    obtain ⟨x1, rfl, rfl, k1⟩ := arg_str_d (by kernel_rfl) (hval 1 9 v1 rfl rfl) h1 (weights_at hsz' 1 rfl rfl)
    have hb : Rows.uptoBulkAll [d0, (DataW.lit (.string x1) : DataW H)] ≤ 1048576 := of_decide_eq_true hk
    simp only [Rows.uptoBulkAll, Rows.uptoBulk] at hb
    obtain ⟨k, hk⟩ := AddrTexts.law x0 k0 x1 k1 (by omega)
    exact (vinerylaw02_AddrTexts.walk W [] (MS.nil _) hG _ _ k true hk).mono fun v W' ⟨hv, hc, _⟩ => ⟨hv, hc⟩
theorem AddrTextsUpto_holds : Rows.AddrTextsUptoSaid :=
  OpenClaim.holds_of_cond 3 Tryd.f3 rfl rfl rfl rfl rfl rfl rfl ⟨rfl, rfl, rfl, rfl, rfl⟩ rfl rfl rfl rfl rfl (by kernel_rfl) Tryd.func3 (by kernel_rfl)
    (of_decide_eq_true (by kernel_rfl)) (by unfold Func.isWrapper; first | (rw [if_pos (by decide +kernel)]; kernel_rfl) | (rw [if_neg (by decide +kernel)]; exact ⟨rfl, rfl⟩))
    (fun os started H enc _ F => by rw [OpenClaim.pre_eq_preRow]; exact AddrTexts_lifted os started H enc F)
theorem AddrTextsUptoCard_holds : Rows.AddrTextsUptoCardSaid :=
  Claim7.holds_tied_plain_at .later [] [.data, .data, .data, .data, .pinned] true (true, "538579f5968837a8801c7bb0dd355ce0721c92c66f8a7e00bd58b8bc28b30536") false AddrTextsUpto_holds (fun _ h => by cases h) (by kernel_rfl) (fun _ h => by cases h) addrTextsUpto_row_tie rfl ⟨rfl, rfl⟩ (by kernel_rfl) rfl
    (fun f fn hf hfn => by
      obtain rfl : f = 3 := Option.some.inj ((show Tryd.prog.funcNamed "vinery/vinerylaw02.AddrTexts" = some 3 by kernel_rfl).symm.trans hf) |>.symm
      obtain rfl : fn = Tryd.f3 := (Option.some.inj (Tryd.func3.symm.trans hfn)).symm
      exact ⟨by kernel_rfl, fun j t ht => by
        rw [Tryd.params3] at ht
        have hm : t ∈ [24, 9] := by simpa using Array.mem_of_getElem? ht
        have hall : ([24, 9].all fun u => !Tryd.prog.wantsStandIn u) = true := by kernel_rfl
        exact (show Tryd.prog.wantsStandIn t = false by simpa using List.all_eq_true.1 hall t hm)⟩)
    (by kernel_rfl)
end Go.Proofs.YtkmgglijdfbhpaaDoor
