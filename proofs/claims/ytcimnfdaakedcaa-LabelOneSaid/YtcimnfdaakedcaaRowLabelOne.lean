/- whatever is done to a pool, one owner holds one label, and no more labels are held than the pool has. -/
import Derived.Test.YtcimnfdaakedcaaLawLabelOne
import Derived.Test.YtcimnfdaakedcaaEngR
import Derived.Test.YtcimnfdaakedcaaRows
set_option linter.unusedVariables false
set_option linter.unusedSimpArgs false
namespace Go.Proofs.Ytcimnfdaakedcaa
open Go.E Go.ChangeShapes Go.WideShapes Go.ChangeAt Go.RowKit
theorem LabelOne_own : ownKnob Try.prog.godebug = none := by kernel_rfl
theorem LabelOne_laidOut : laidOutB Try.prog = true := by kernel_rfl
theorem rdrS_vinerylaw05_Act : Rdr Try.prog 36 rS_vinerylaw05_Act okS_vinerylaw05_Act :=
  rdr_struct (by kernel_rfl) (by kernel_rfl) (rdrf_cons (t := 3) (rdr_int (by kernel_rfl) (by kernel_rfl)) (rdrf_cons (t := 9) (rdr_str (by kernel_rfl) (by kernel_rfl)) (rdrf_last (t := 3) (rdr_int (by kernel_rfl) (by kernel_rfl))))) (fun x : S_vinerylaw05_Act => (x.Do, x.S, x.N)) (fun y => ⟨⟨y.1, y.2.1, y.2.2⟩, rfl, fun h => ⟨h.1, h.2.1, h.2.2⟩⟩)
set_option maxRecDepth 100000 in
theorem LabelOne_lifted (os : Os) (started : os.Started) (H : Type) (enc : TypeId × Value → H) :
    ReturnsInHanded {} Try.checked os 5 .any (Rows.labelOneSpec.pre6 enc Try.prog Try.f5 Rows.labelOneRow.domain false) (Rows.labelOneSpec.post enc Try.prog Try.f5 false true false false) := by
  refine lift_true (C := Try.checked) (tb := 4) LabelOne_own started (by kernel_rfl) Try.func5
    (ChangeSpec.witness6 (enc := enc) (C := Try.checked) false ⟨#[], #[.int .i64 0, .int .i64 0, .slice none 0 0, .string ⟨#[]⟩], []⟩ 8 (by kernel_rfl) (by kernel_rfl) (by kernel_rfl) (by kernel_rfl))
    LabelOne_laidOut (by kernel_rfl) (by kernel_rfl) (by kernel_rfl) rfl (fun ds h => ?_) ?_
  · rw [Try.params5] at h
    match ds, h with
    | [_, _, _, _], _ => rfl
  · intro W base args ds p hval hA hsz _
    rw [Try.params5] at hval
    have hA' : DataW.TrodAll enc Try.prog W 0 (fun _ => true) true [3, 3, 31, 9] args.toList ds p := hA
    obtain ⟨v0, v1, v2, v3, d0, d1, d2, d3, p0, p1, p2, p3, rfl, rfl, rfl, h0, h1, h2, h3⟩ := trodAll_four hA'
    have hsz' : (DataW.weightsEach Try.prog [3, 3, 31, 9] [d0, d1, d2, d3]).all (· ≤ reachBytes) = true := hsz
    obtain ⟨x0, rfl, k0⟩ := arg_int (k := .i64) (by kernel_rfl) (hval 0 3 v0 rfl rfl) h0
    obtain ⟨x1, rfl, k1⟩ := arg_int (k := .i64) (by kernel_rfl) (hval 1 3 v1 rfl rfl) h1
    obtain ⟨x2, ao2, cap2, rfl, R2, k2⟩ := arg_slice (by kernel_rfl) (rdr_slice (by kernel_rfl) (by kernel_rfl) (nb := 32) (by kernel_rfl) rdrS_vinerylaw05_Act (by kernel_rfl)) (hval 2 31 v2 rfl rfl) h2 (weights_at hsz' 2 rfl rfl)
    obtain ⟨x3, rfl, k3⟩ := arg_str (by kernel_rfl) (hval 3 9 v3 rfl rfl) h3 (weights_at hsz' 3 rfl rfl)
    obtain ⟨k, hk⟩ := LabelOne.law x0 k0 x1 k1 x2 k2 x3 k3
    exact (vinerylaw05_LabelOne.walk W [] (MS.nil _) _ _ _ _ _ R2 _ k true hk).mono fun v W' ⟨hv, hc, _⟩ => ⟨hv, hc⟩
theorem LabelOne_holds : Rows.LabelOneSaid :=
  OpenClaim.holds_of_wide 5 Try.f5 rfl rfl rfl rfl rfl rfl rfl ⟨rfl, rfl, rfl, rfl, rfl⟩ rfl rfl rfl rfl rfl (by kernel_rfl) Try.func5 (by kernel_rfl)
    (of_decide_eq_true (by kernel_rfl)) (by unfold Func.isWrapper; first | (rw [if_pos (by decide +kernel)]; kernel_rfl) | (rw [if_neg (by decide +kernel)]; exact ⟨rfl, rfl⟩))
    (fun os started H enc _ => LabelOne_lifted os started H enc)
end Go.Proofs.Ytcimnfdaakedcaa
