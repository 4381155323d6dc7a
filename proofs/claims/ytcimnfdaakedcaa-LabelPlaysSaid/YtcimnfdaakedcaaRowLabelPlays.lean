/- label.Pool and the reference pool play alike, act by act: the same labels, the same errors, the same owners and the same count. -/
import Derived.Test.YtcimnfdaakedcaaLawLabelPlays
import Derived.Test.YtcimnfdaakedcaaEngR
import Derived.Test.YtcimnfdaakedcaaRows
set_option linter.unusedVariables false
set_option linter.unusedSimpArgs false
namespace Go.Proofs.Ytcimnfdaakedcaa
open Go.E Go.ChangeShapes Go.WideShapes Go.ChangeAt Go.RowKit
theorem LabelPlays_own : ownKnob Try.prog.godebug = none := by kernel_rfl
theorem LabelPlays_laidOut : laidOutB Try.prog = true := by kernel_rfl
theorem rdrS_vinerylaw05_Act : Rdr Try.prog 36 rS_vinerylaw05_Act okS_vinerylaw05_Act :=
  rdr_struct (by kernel_rfl) (by kernel_rfl) (rdrf_cons (t := 3) (rdr_int (by kernel_rfl) (by kernel_rfl)) (rdrf_cons (t := 9) (rdr_str (by kernel_rfl) (by kernel_rfl)) (rdrf_last (t := 3) (rdr_int (by kernel_rfl) (by kernel_rfl))))) (fun x : S_vinerylaw05_Act => (x.Do, x.S, x.N)) (fun y => ⟨⟨y.1, y.2.1, y.2.2⟩, rfl, fun h => ⟨h.1, h.2.1, h.2.2⟩⟩)
set_option maxRecDepth 100000 in
theorem LabelPlays_lifted (os : Os) (started : os.Started) (H : Type) (enc : TypeId × Value → H) :
    ReturnsInHanded {} Try.checked os 4 .any (Rows.labelPlaysSpec.pre6 enc Try.prog Try.f4 Rows.labelPlaysRow.domain false) (Rows.labelPlaysSpec.post enc Try.prog Try.f4 false true false false) := by
  refine lift_true (C := Try.checked) (tb := 4) LabelPlays_own started (by kernel_rfl) Try.func4
    (ChangeSpec.witness6 (enc := enc) (C := Try.checked) false ⟨#[], #[.int .i64 0, .int .i64 0, .slice none 0 0], []⟩ 8 (by kernel_rfl) (by kernel_rfl) (by kernel_rfl) (by kernel_rfl))
    LabelPlays_laidOut (by kernel_rfl) (by kernel_rfl) (by kernel_rfl) rfl (fun ds h => ?_) ?_
  · rw [Try.params4] at h
    match ds, h with
    | [_, _, _], _ => rfl
  · intro W base args ds p hval hA hsz _
    rw [Try.params4] at hval
    have hA' : DataW.TrodAll enc Try.prog W 0 (fun _ => true) true [3, 3, 31] args.toList ds p := hA
    obtain ⟨v0, v1, v2, d0, d1, d2, p0, p1, p2, rfl, rfl, rfl, h0, h1, h2⟩ := trodAll_three hA'
    have hsz' : (DataW.weightsEach Try.prog [3, 3, 31] [d0, d1, d2]).all (· ≤ reachBytes) = true := hsz
    obtain ⟨x0, rfl, k0⟩ := arg_int (k := .i64) (by kernel_rfl) (hval 0 3 v0 rfl rfl) h0
    obtain ⟨x1, rfl, k1⟩ := arg_int (k := .i64) (by kernel_rfl) (hval 1 3 v1 rfl rfl) h1
    obtain ⟨x2, ao2, cap2, rfl, R2, k2⟩ := arg_slice (by kernel_rfl) (rdr_slice (by kernel_rfl) (by kernel_rfl) (nb := 32) (by kernel_rfl) rdrS_vinerylaw05_Act (by kernel_rfl)) (hval 2 31 v2 rfl rfl) h2 (weights_at hsz' 2 rfl rfl)
    obtain ⟨k, hk⟩ := LabelPlays.law x0 k0 x1 k1 x2 k2
    exact (vinerylaw05_LabelPlays.walk W [] (MS.nil _) _ _ _ _ _ R2 k true hk).mono fun v W' ⟨hv, hc, _⟩ => ⟨hv, hc⟩
theorem LabelPlays_holds : Rows.LabelPlaysSaid :=
  OpenClaim.holds_of_wide 4 Try.f4 rfl rfl rfl rfl rfl rfl rfl ⟨rfl, rfl, rfl, rfl, rfl⟩ rfl rfl rfl rfl rfl (by kernel_rfl) Try.func4 (by kernel_rfl)
    (of_decide_eq_true (by kernel_rfl)) (by unfold Func.isWrapper; first | (rw [if_pos (by decide +kernel)]; kernel_rfl) | (rw [if_neg (by decide +kernel)]; exact ⟨rfl, rfl⟩))
    (fun os started H enc _ => LabelPlays_lifted os started H enc)
end Go.Proofs.Ytcimnfdaakedcaa
