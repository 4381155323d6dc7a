/- What any head says is as the document says, whatever the bytes. -/
import Derived.Test.YtinakhioihhgfaaGreatDoorLawMessageHeads
import Derived.Test.YtinakhioihhgfaaGreatDoorEngS
import Derived.Test.YtinakhioihhgfaaGreatDoorRows
import Derived.Test.YtinakhioihhgfaaGreatDoorCards
import Derived.Test.YtinakhioihhgfaaGreatDoorTie
set_option linter.unusedVariables false
set_option linter.unusedSimpArgs false
namespace Go.Proofs.YtinakhioihhgfaaGreatDoor
open Go.E Go.ChangeShapes Go.WideShapes Go.ChangeAt Go.RowKit
theorem MessageHeads_own : ownKnob Tryz.prog.godebug = none := by kernel_rfl
theorem MessageHeads_laidOut : laidOutB Tryz.prog = true := by kernel_rfl
set_option maxRecDepth 100000 in
theorem MessageHeads_lifted (os : Os) (started : os.Started) (H : Type) (enc : TypeId × Value → H) :
    ReturnsInHanded {} Tryz.checked os 3 .any (fun w args => (Rows.messageHeadsSpec.pre enc Tryz.prog Tryz.f3 Rows.messageHeadsRow.domain false w args ∧ laidMetH Tryz.prog Rows.messageHeadsRow.laid w) ∧ sizedMet enc Tryz.prog Tryz.f3 (OpenSpec.ofChange Rows.messageHeadsSpec) false w args) (Rows.messageHeadsSpec.post enc Tryz.prog Tryz.f3 false true false false) := by
  refine lift_laid (C := Tryz.checked) (tb := 4) (laid := Rows.messageHeadsRow.laid) MessageHeads_own started (by kernel_rfl) Tryz.func3
    (ChangeSpec.witness_shaped (enc := enc) (C := Tryz.checked) (os := os) (X := fun w _ => laidMetH Tryz.prog Rows.messageHeadsRow.laid w) false (World.laidAll Tryz.prog os Rows.messageHeadsRow.laid) #[.slice none 0 0] 8 (World.laidAll_os _ _ _) (World.shaped_of_ZipB (by kernel_rfl) (by kernel_rfl)) (by kernel_rfl) (by kernel_rfl) (by kernel_rfl)
      (by rw [MakeChecks.laidMetH_plain _ _ _ (by kernel_rfl)]; exact laidMet_laidAll _ (by kernel_rfl) (by kernel_rfl)))
    MessageHeads_laidOut (by kernel_rfl) (by kernel_rfl) (by kernel_rfl) rfl (fun ds h => ?_) ?_
  · rw [Tryz.params3] at h
    match ds, h with
    | [_], _ => rfl
  · intro W base args ds p hval hA hsz _ _
    rw [Tryz.params3] at hval
    have hA' : DataW.TrodAll enc Tryz.prog W 0 (fun _ => true) true [22] args.toList ds p := hA
    obtain ⟨v0, d0, rfl, rfl, h0⟩ := trodAll_one hA'
    have hsz' : (DataW.weightsEach Tryz.prog [22] [d0]).all (· ≤ reachBytes) = true := hsz
    obtain ⟨x0, ao0, cap0, rfl, R0, k0⟩ := arg_slice (by kernel_rfl) (rdr_slice (by kernel_rfl) (by kernel_rfl) (nb := 1) (by kernel_rfl) (rdr_int (by kernel_rfl) (by kernel_rfl)) (by kernel_rfl)) (hval 0 22 v0 rfl rfl) h0 (weights_at hsz' 0 rfl rfl)
    obtain ⟨k, hk⟩ := MessageHeads.law x0 k0
    exact (vinerylaw11_MessageHeads.walk W [] (MS.nil _) _ _ _ R0 k true hk).mono fun v W' ⟨hv, hc, _⟩ => ⟨hv, hc⟩
theorem MessageHeads_holds : Rows.MessageHeadsSaid :=
  OpenClaim.holds_of_wide 3 Tryz.f3 rfl rfl rfl rfl rfl rfl rfl ⟨rfl, rfl, rfl, rfl, rfl⟩ rfl rfl rfl rfl rfl (by kernel_rfl) Tryz.func3 (by kernel_rfl)
    (of_decide_eq_true (by kernel_rfl)) (by unfold Func.isWrapper; first | (rw [if_pos (by decide +kernel)]; kernel_rfl) | (rw [if_neg (by decide +kernel)]; exact ⟨rfl, rfl⟩))
    (fun os started H enc _ => MessageHeads_lifted os started H enc)
theorem MessageHeadsCard_holds : Rows.MessageHeadsCardSaid :=
  Claim7.holds_tied_plain_at .later [] [.data, .data, .data, .data, .pinned] true (true, "7f4c415b08b50005801df4e0f277022e17a2914d2fc886a7479514f00e072a11") true MessageHeads_holds (fun _ h => by cases h) (by kernel_rfl) (fun _ h => by cases h) messageHeads_row_tie rfl ⟨rfl, rfl⟩ (by kernel_rfl) rfl
    (fun f fn hf hfn => by
      obtain rfl : f = 3 := Option.some.inj ((show Tryz.prog.funcNamed "vinery/vinerylaw11.MessageHeads" = some 3 by kernel_rfl).symm.trans hf) |>.symm
      obtain rfl : fn = Tryz.f3 := (Option.some.inj (Tryz.func3.symm.trans hfn)).symm
      exact ⟨by kernel_rfl, fun j t ht => by
        rw [Tryz.params3] at ht
        have hm : t ∈ [22] := by simpa using Array.mem_of_getElem? ht
        have hall : ([22].all fun u => !Tryz.prog.wantsStandIn u) = true := by kernel_rfl
        exact (show Tryz.prog.wantsStandIn t = false by simpa using List.all_eq_true.1 hall t hm)⟩)
    (by kernel_rfl)
end Go.Proofs.YtinakhioihhgfaaGreatDoor
