/- The end of a family is an update of just ten bytes, which is read as that; of other families it is not right. -/
import Derived.Test.YtnbpoeiipgcogaaGreatDoorLawUpdateEnds
import Derived.Test.YtnbpoeiipgcogaaGreatDoorEngS
import Derived.Test.YtnbpoeiipgcogaaGreatDoorRows
import Derived.Test.YtnbpoeiipgcogaaGreatDoorCards
import Derived.Test.YtnbpoeiipgcogaaGreatDoorTie
set_option linter.unusedVariables false
set_option linter.unusedSimpArgs false
namespace Go.Proofs.YtnbpoeiipgcogaaGreatDoor
open Go.E Go.ChangeShapes Go.WideShapes Go.ChangeAt Go.RowKit
theorem UpdateEnds_own : ownKnob Tryz.prog.godebug = none := by kernel_rfl
theorem UpdateEnds_laidOut : laidOutB Tryz.prog = true := by kernel_rfl
set_option maxRecDepth 100000 in
theorem UpdateEnds_lifted (os : Os) (started : os.Started) (H : Type) (enc : TypeId × Value → H) :
    ReturnsInHanded {} Tryz.checked os 7 .any (fun w args => (Rows.updateEndsSpec.pre enc Tryz.prog Tryz.f7 Rows.updateEndsRow.domain false w args ∧ laidMetH Tryz.prog Rows.updateEndsRow.laid w) ∧ sizedMet enc Tryz.prog Tryz.f7 (OpenSpec.ofChange Rows.updateEndsSpec) false w args) (Rows.updateEndsSpec.post enc Tryz.prog Tryz.f7 false true false false) := by
  refine lift_laid (C := Tryz.checked) (tb := 4) (laid := Rows.updateEndsRow.laid) UpdateEnds_own started (by kernel_rfl) Tryz.func7
    (ChangeSpec.witness_shaped (enc := enc) (C := Tryz.checked) (os := os) (X := fun w _ => laidMetH Tryz.prog Rows.updateEndsRow.laid w) false (World.laidAll Tryz.prog os Rows.updateEndsRow.laid) #[.int .i64 0, .int .i64 0] 8 (World.laidAll_os _ _ _) (World.shaped_of_ZipB (by kernel_rfl) (by kernel_rfl)) (by kernel_rfl) (by kernel_rfl) (by kernel_rfl)
      (by rw [MakeChecks.laidMetH_plain _ _ _ (by kernel_rfl)]; exact laidMet_laidAll _ (by kernel_rfl) (by kernel_rfl)))
    UpdateEnds_laidOut (by kernel_rfl) (by kernel_rfl) (by kernel_rfl) rfl (fun ds h => ?_) ?_
  · rw [Tryz.params7] at h
    match ds, h with
    | [_, _], _ => rfl
  · intro W base args ds p hval hA hsz _ _
    rw [Tryz.params7] at hval
    have hA' : DataW.TrodAll enc Tryz.prog W 0 (fun _ => true) true [3, 3] args.toList ds p := hA
    obtain ⟨v0, v1, d0, d1, p0, p1, rfl, rfl, rfl, h0, h1⟩ := trodAll_two hA'
    have hsz' : (DataW.weightsEach Tryz.prog [3, 3] [d0, d1]).all (· ≤ reachBytes) = true := hsz
    obtain ⟨x0, rfl, k0⟩ := arg_int (k := .i64) (by kernel_rfl) (hval 0 3 v0 rfl rfl) h0
    obtain ⟨x1, rfl, k1⟩ := arg_int (k := .i64) (by kernel_rfl) (hval 1 3 v1 rfl rfl) h1
    obtain ⟨k, hk⟩ := UpdateEnds.law x0 k0 x1 k1
    exact (vinerylaw10_UpdateEnds.walk W [] (MS.nil _) _ _ k true hk).mono fun v W' ⟨hv, hc, _⟩ => ⟨hv, hc⟩
theorem UpdateEnds_holds : Rows.UpdateEndsSaid :=
  OpenClaim.holds_of_wide 7 Tryz.f7 rfl rfl rfl rfl rfl rfl rfl ⟨rfl, rfl, rfl, rfl, rfl⟩ rfl rfl rfl rfl rfl (by kernel_rfl) Tryz.func7 (by kernel_rfl)
    (of_decide_eq_true (by kernel_rfl)) (by unfold Func.isWrapper; first | (rw [if_pos (by decide +kernel)]; kernel_rfl) | (rw [if_neg (by decide +kernel)]; exact ⟨rfl, rfl⟩))
    (fun os started H enc _ => UpdateEnds_lifted os started H enc)
theorem UpdateEndsCard_holds : Rows.UpdateEndsCardSaid :=
  Claim7.holds_tied_plain_at .later [] [.data, .data, .data, .data, .pinned] true (true, "3ab601e8f2423a8f5f0149dda9ec373cfda23c2a518188ab6dae878c154a8f34") true UpdateEnds_holds (fun _ h => by cases h) (by kernel_rfl) (fun _ h => by cases h) updateEnds_row_tie rfl ⟨rfl, rfl⟩ (by kernel_rfl) rfl
    (fun f fn hf hfn => by
      obtain rfl : f = 7 := Option.some.inj ((show Tryz.prog.funcNamed "vinery/vinerylaw10.UpdateEnds" = some 7 by kernel_rfl).symm.trans hf) |>.symm
      obtain rfl : fn = Tryz.f7 := (Option.some.inj (Tryz.func7.symm.trans hfn)).symm
      exact ⟨by kernel_rfl, fun j t ht => by
        rw [Tryz.params7] at ht
        have hm : t ∈ [3, 3] := by simpa using Array.mem_of_getElem? ht
        have hall : ([3, 3].all fun u => !Tryz.prog.wantsStandIn u) = true := by kernel_rfl
        exact (show Tryz.prog.wantsStandIn t = false by simpa using List.all_eq_true.1 hall t hm)⟩)
    (by kernel_rfl)
end Go.Proofs.YtnbpoeiipgcogaaGreatDoor
