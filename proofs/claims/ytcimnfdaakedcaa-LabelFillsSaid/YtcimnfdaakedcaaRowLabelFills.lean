/- a pool of labels hands out its first labels one behind another, refuses when it is full, and is empty behind Clear. -/
import Derived.Test.YtcimnfdaakedcaaLawLabelFills
import Derived.Test.YtcimnfdaakedcaaEngR
import Derived.Test.YtcimnfdaakedcaaRows
set_option linter.unusedVariables false
set_option linter.unusedSimpArgs false
namespace Go.Proofs.Ytcimnfdaakedcaa
open Go.E Go.ChangeShapes Go.WideShapes Go.ChangeAt Go.RowKit
theorem LabelFills_own : ownKnob Try.prog.godebug = none := by kernel_rfl
theorem LabelFills_laidOut : laidOutB Try.prog = true := by kernel_rfl
set_option maxRecDepth 100000 in
theorem LabelFills_lifted (os : Os) (started : os.Started) (H : Type) (enc : TypeId × Value → H) :
    ReturnsInHanded {} Try.checked os 3 .any (Rows.labelFillsSpec.pre6 enc Try.prog Try.f3 Rows.labelFillsRow.domain false) (Rows.labelFillsSpec.post enc Try.prog Try.f3 false true false false) := by
  refine lift_true (C := Try.checked) (tb := 4) LabelFills_own started (by kernel_rfl) Try.func3
    (ChangeSpec.witness6 (enc := enc) (C := Try.checked) false ⟨#[], #[.int .i64 0, .int .i64 0], []⟩ 8 (by kernel_rfl) (by kernel_rfl) (by kernel_rfl) (by kernel_rfl))
    LabelFills_laidOut (by kernel_rfl) (by kernel_rfl) (by kernel_rfl) rfl (fun ds h => ?_) ?_
  · rw [Try.params3] at h
    match ds, h with
    | [_, _], _ => rfl
  · intro W base args ds p hval hA hsz _
    rw [Try.params3] at hval
    have hA' : DataW.TrodAll enc Try.prog W 0 (fun _ => true) true [3, 3] args.toList ds p := hA
    obtain ⟨v0, v1, d0, d1, p0, p1, rfl, rfl, rfl, h0, h1⟩ := trodAll_two hA'
    have hsz' : (DataW.weightsEach Try.prog [3, 3] [d0, d1]).all (· ≤ reachBytes) = true := hsz
    obtain ⟨x0, rfl, k0⟩ := arg_int (k := .i64) (by kernel_rfl) (hval 0 3 v0 rfl rfl) h0
    obtain ⟨x1, rfl, k1⟩ := arg_int (k := .i64) (by kernel_rfl) (hval 1 3 v1 rfl rfl) h1
    obtain ⟨k, hk⟩ := LabelFills.law x0 k0 x1 k1
    exact (vinerylaw05_LabelFills.walk W [] (MS.nil _) _ _ k true hk).mono fun v W' ⟨hv, hc, _⟩ => ⟨hv, hc⟩
theorem LabelFills_holds : Rows.LabelFillsSaid :=
  OpenClaim.holds_of_wide 3 Try.f3 rfl rfl rfl rfl rfl rfl rfl ⟨rfl, rfl, rfl, rfl, rfl⟩ rfl rfl rfl rfl rfl (by kernel_rfl) Try.func3 (by kernel_rfl)
    (of_decide_eq_true (by kernel_rfl)) (by unfold Func.isWrapper; first | (rw [if_pos (by decide +kernel)]; kernel_rfl) | (rw [if_neg (by decide +kernel)]; exact ⟨rfl, rfl⟩))
    (fun os started H enc _ => LabelFills_lifted os started H enc)
end Go.Proofs.Ytcimnfdaakedcaa
