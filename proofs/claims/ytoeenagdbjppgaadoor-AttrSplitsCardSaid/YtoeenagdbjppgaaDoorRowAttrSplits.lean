/- Attributes are cut out of bytes and joined as the document's are, whatever the bytes and the attributes. -/
import Derived.Test.YtoeenagdbjppgaaDoorLawAttrSplits
import Derived.Test.YtoeenagdbjppgaaDoorEngS
import Derived.Test.YtoeenagdbjppgaaDoorRows
import Derived.Test.YtoeenagdbjppgaaDoorCards
import Derived.Test.YtoeenagdbjppgaaDoorTie
set_option linter.unusedVariables false
set_option linter.unusedSimpArgs false
namespace Go.Proofs.YtoeenagdbjppgaaDoor
open Go.E Go.ChangeShapes Go.WideShapes Go.ChangeAt Go.RowKit
theorem AttrSplits_own : ownKnob Tryd.prog.godebug = none := by kernel_rfl
theorem AttrSplits_laidOut : laidOutB Tryd.prog = true := by kernel_rfl
theorem rdrS_api_Raw : Rdr Tryd.prog 61 rS_api_Raw okS_api_Raw :=
  rdr_struct (by kernel_rfl) (by kernel_rfl) (rdrf_cons (t := 3) (rdr_int (by kernel_rfl) (by kernel_rfl)) (rdrf_cons (t := 3) (rdr_int (by kernel_rfl) (by kernel_rfl)) (rdrf_last (t := 25) (rdr_slice (by kernel_rfl) (by kernel_rfl) (nb := 1) (by kernel_rfl) (rdr_int (by kernel_rfl) (by kernel_rfl)) (by kernel_rfl))))) (fun x : S_api_Raw => (x.Flags, x.Kind, x.Value)) (fun y => ⟨⟨y.1, y.2.1, y.2.2⟩, rfl, fun h => ⟨h.1, h.2.1, h.2.2⟩⟩)
set_option maxRecDepth 100000 in
theorem AttrSplits_lifted (os : Os) (started : os.Started) (H : Type) (enc : TypeId × Value → H) :
    ReturnsInHanded {} Tryd.checked os 8 .any (fun w args => (Rows.attrSplitsSpec.pre enc Tryd.prog Tryd.f8 Rows.attrSplitsRow.domain false w args ∧ laidMetH Tryd.prog Rows.attrSplitsRow.laid w) ∧ sizedMet enc Tryd.prog Tryd.f8 (OpenSpec.ofChange Rows.attrSplitsSpec) false w args) (Rows.attrSplitsSpec.post enc Tryd.prog Tryd.f8 false true false false) := by
  refine lift_laid (C := Tryd.checked) (tb := 4) (laid := Rows.attrSplitsRow.laid) AttrSplits_own started (by kernel_rfl) Tryd.func8
    (ChangeSpec.witness_shaped (enc := enc) (C := Tryd.checked) (os := os) (X := fun w _ => laidMetH Tryd.prog Rows.attrSplitsRow.laid w) false (World.laidAll Tryd.prog os Rows.attrSplitsRow.laid) #[.slice none 0 0, .slice none 0 0] 8 (World.laidAll_os _ _ _) (World.shaped_of_ZipB (by kernel_rfl) (by kernel_rfl)) (by kernel_rfl) (by kernel_rfl) (by kernel_rfl)
      (by rw [MakeChecks.laidMetH_plain _ _ _ (by kernel_rfl)]; exact laidMet_laidAll _ (by kernel_rfl) (by kernel_rfl)))
    AttrSplits_laidOut (by kernel_rfl) (by kernel_rfl) (by kernel_rfl) rfl (fun ds h => ?_) ?_
  · rw [Tryd.params8] at h
    match ds, h with
    | [_, _], _ => rfl
  · intro W base args ds p hval hA hsz _ _
    rw [Tryd.params8] at hval
    have hA' : DataW.TrodAll enc Tryd.prog W 0 (fun _ => true) true [25, 42] args.toList ds p := hA
    obtain ⟨v0, v1, d0, d1, p0, p1, rfl, rfl, rfl, h0, h1⟩ := trodAll_two hA'
    have hsz' : (DataW.weightsEach Tryd.prog [25, 42] [d0, d1]).all (· ≤ reachBytes) = true := hsz
    obtain ⟨x0, ao0, cap0, rfl, R0, k0⟩ := arg_slice (by kernel_rfl) (rdr_slice (by kernel_rfl) (by kernel_rfl) (nb := 1) (by kernel_rfl) (rdr_int (by kernel_rfl) (by kernel_rfl)) (by kernel_rfl)) (hval 0 25 v0 rfl rfl) h0 (weights_at hsz' 0 rfl rfl)
    obtain ⟨x1, ao1, cap1, rfl, R1, k1⟩ := arg_slice (by kernel_rfl) (rdr_slice (by kernel_rfl) (by kernel_rfl) (nb := 40) (by kernel_rfl) rdrS_api_Raw (by kernel_rfl)) (hval 1 42 v1 rfl rfl) h1 (weights_at hsz' 1 rfl rfl)
    obtain ⟨k, hk⟩ := AttrSplits.law x0 k0 x1 k1
    exact (vinerylaw09_AttrSplits.walk W [] (MS.nil _) _ _ _ R0 _ _ _ R1 k true hk).mono fun v W' ⟨hv, hc, _⟩ => ⟨hv, hc⟩
theorem AttrSplits_holds : Rows.AttrSplitsSaid :=
  OpenClaim.holds_of_wide 8 Tryd.f8 rfl rfl rfl rfl rfl rfl rfl ⟨rfl, rfl, rfl, rfl, rfl⟩ rfl rfl rfl rfl rfl (by kernel_rfl) Tryd.func8 (by kernel_rfl)
    (of_decide_eq_true (by kernel_rfl)) (by unfold Func.isWrapper; first | (rw [if_pos (by decide +kernel)]; kernel_rfl) | (rw [if_neg (by decide +kernel)]; exact ⟨rfl, rfl⟩))
    (fun os started H enc _ => AttrSplits_lifted os started H enc)
theorem AttrSplitsCard_holds : Rows.AttrSplitsCardSaid :=
  Claim7.holds_tied_plain_at .later [] [.data, .pinned] true (true, "010f159d3c9d15f1f4ffb49405e4b1da56e2b59129afda1c73cbc307dac4d4b7") true AttrSplits_holds (fun _ h => by cases h) (by kernel_rfl) (fun _ h => by cases h) attrSplits_row_tie rfl ⟨rfl, rfl⟩ (by kernel_rfl) rfl
    (fun f fn hf hfn => by
      obtain rfl : f = 8 := Option.some.inj ((show Tryd.prog.funcNamed "vinery/vinerylaw09.AttrSplits" = some 8 by kernel_rfl).symm.trans hf) |>.symm
      obtain rfl : fn = Tryd.f8 := (Option.some.inj (Tryd.func8.symm.trans hfn)).symm
      exact ⟨by kernel_rfl, fun j t ht => by
        rw [Tryd.params8] at ht
        have hm : t ∈ [25, 42] := by simpa using Array.mem_of_getElem? ht
        have hall : ([25, 42].all fun u => !Tryd.prog.wantsStandIn u) = true := by kernel_rfl
        exact (show Tryd.prog.wantsStandIn t = false by simpa using List.all_eq_true.1 hall t hm)⟩)
    (by kernel_rfl)
end Go.Proofs.YtoeenagdbjppgaaDoor
