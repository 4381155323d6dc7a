/- label.Bytes and label.Read undo each other, and a refusal reads as nothing. -/
import Derived.Test.YtcimnfdaakedcaaLawLabelBack
import Derived.Test.YtcimnfdaakedcaaEngR
import Derived.Test.YtcimnfdaakedcaaRows
set_option linter.unusedVariables false
set_option linter.unusedSimpArgs false
namespace Go.Proofs.Ytcimnfdaakedcaa
open Go.E Go.ChangeShapes Go.WideShapes Go.ChangeAt Go.RowKit
theorem LabelBack_own : ownKnob Try.prog.godebug = none := by kernel_rfl
theorem LabelBack_laidOut : laidOutB Try.prog = true := by kernel_rfl
set_option maxRecDepth 100000 in
theorem LabelBack_lifted (os : Os) (started : os.Started) (H : Type) (enc : TypeId × Value → H) :
    ReturnsInHanded {} Try.checked os 7 .any (Rows.labelBackSpec.pre6 enc Try.prog Try.f7 Rows.labelBackRow.domain false) (Rows.labelBackSpec.post enc Try.prog Try.f7 false true false false) := by
  refine lift_true (C := Try.checked) (tb := 4) LabelBack_own started (by kernel_rfl) Try.func7
    (ChangeSpec.witness6 (enc := enc) (C := Try.checked) false ⟨#[], #[.int .i64 0, .bool false, .slice none 0 0], []⟩ 8 (by kernel_rfl) (by kernel_rfl) (by kernel_rfl) (by kernel_rfl))
    LabelBack_laidOut (by kernel_rfl) (by kernel_rfl) (by kernel_rfl) rfl (fun ds h => ?_) ?_
  · rw [Try.params7] at h
    match ds, h with
    | [_, _, _], _ => rfl
  · intro W base args ds p hval hA hsz _
    rw [Try.params7] at hval
    have hA' : DataW.TrodAll enc Try.prog W 0 (fun _ => true) true [3, 4, 44] args.toList ds p := hA
    obtain ⟨v0, v1, v2, d0, d1, d2, p0, p1, p2, rfl, rfl, rfl, h0, h1, h2⟩ := trodAll_three hA'
    have hsz' : (DataW.weightsEach Try.prog [3, 4, 44] [d0, d1, d2]).all (· ≤ reachBytes) = true := hsz
    obtain ⟨x0, rfl, k0⟩ := arg_int (k := .i64) (by kernel_rfl) (hval 0 3 v0 rfl rfl) h0
    obtain ⟨x1, rfl, k1⟩ := arg_bool (by kernel_rfl) (hval 1 4 v1 rfl rfl) h1
    obtain ⟨x2, ao2, cap2, rfl, R2, k2⟩ := arg_slice (by kernel_rfl) (rdr_slice (by kernel_rfl) (by kernel_rfl) (nb := 1) (by kernel_rfl) (rdr_int (by kernel_rfl) (by kernel_rfl)) (by kernel_rfl)) (hval 2 44 v2 rfl rfl) h2 (weights_at hsz' 2 rfl rfl)
    obtain ⟨k, hk⟩ := LabelBack.law x0 k0 x1 k1 x2 k2
    exact (vinerylaw05_LabelBack.walk W [] (MS.nil _) _ _ _ _ _ R2 k true hk).mono fun v W' ⟨hv, hc, _⟩ => ⟨hv, hc⟩
theorem LabelBack_holds : Rows.LabelBackSaid :=
  OpenClaim.holds_of_wide 7 Try.f7 rfl rfl rfl rfl rfl rfl rfl ⟨rfl, rfl, rfl, rfl, rfl⟩ rfl rfl rfl rfl rfl (by kernel_rfl) Try.func7 (by kernel_rfl)
    (of_decide_eq_true (by kernel_rfl)) (by unfold Func.isWrapper; first | (rw [if_pos (by decide +kernel)]; kernel_rfl) | (rw [if_neg (by decide +kernel)]; exact ⟨rfl, rfl⟩))
    (fun os started H enc _ => LabelBack_lifted os started H enc)
end Go.Proofs.Ytcimnfdaakedcaa
