/- For every input the law CursorBack returns true, and its arguments read behind the call as they read before; no condition. -/
import Derived.Test.YtmgjcnjcnejjkaaLawCursorBack
import Derived.Test.YtmgjcnjcnejjkaaEngR
import Derived.Test.YtmgjcnjcnejjkaaRows
set_option linter.unusedVariables false
set_option linter.unusedSimpArgs false
namespace Go.Proofs.Ytmgjcnjcnejjkaa
open Go.E Go.ChangeShapes Go.WideShapes Go.ChangeAt Go.RowKit
theorem CursorBack_own : ownKnob Try.prog.godebug = none := by kernel_rfl
theorem CursorBack_laidOut : laidOutB Try.prog = true := by kernel_rfl
set_option maxRecDepth 100000 in
theorem CursorBack_lifted (os : Os) (started : os.Started) (H : Type) (enc : TypeId × Value → H) :
    ReturnsInHanded {} Try.checked os 5 .any (Rows.cursorBackSpec.pre6 enc Try.prog Try.f5 Rows.cursorBackRow.domain false) (Rows.cursorBackSpec.post enc Try.prog Try.f5 false true false false) := by
  refine lift_true (C := Try.checked) (tb := 4) CursorBack_own started (by kernel_rfl) Try.func5
    (ChangeSpec.witness6 (enc := enc) (C := Try.checked) false ⟨#[], #[.slice none 0 0, .int .i64 0, .int .i64 0], []⟩ 8 (by kernel_rfl) (by kernel_rfl) (by kernel_rfl) (by kernel_rfl))
    CursorBack_laidOut (by kernel_rfl) (by kernel_rfl) (by kernel_rfl) rfl (fun ds h => ?_) ?_
  · rw [Try.params5] at h
    match ds, h with
    | [_, _, _], _ => rfl
  · intro W base args ds p hval hA hsz _
    rw [Try.params5] at hval
    have hA' : DataW.TrodAll enc Try.prog W 0 (fun _ => true) true [22, 3, 3] args.toList ds p := hA
    obtain ⟨v0, v1, v2, d0, d1, d2, p0, p1, p2, rfl, rfl, rfl, h0, h1, h2⟩ := trodAll_three hA'
    have hsz' : (DataW.weightsEach Try.prog [22, 3, 3] [d0, d1, d2]).all (· ≤ reachBytes) = true := hsz
    obtain ⟨x0, ao0, cap0, rfl, R0, k0⟩ := arg_slice (by kernel_rfl) (rdr_slice (by kernel_rfl) (by kernel_rfl) (nb := 1) (by kernel_rfl) (rdr_int (by kernel_rfl) (by kernel_rfl)) (by kernel_rfl)) (hval 0 22 v0 rfl rfl) h0 (weights_at hsz' 0 rfl rfl)
    obtain ⟨x1, rfl, k1⟩ := arg_int (k := .i64) (by kernel_rfl) (hval 1 3 v1 rfl rfl) h1
    obtain ⟨x2, rfl, k2⟩ := arg_int (k := .i64) (by kernel_rfl) (hval 2 3 v2 rfl rfl) h2
    obtain ⟨k, hk⟩ := CursorBack.law x0 k0 x1 k1 x2 k2
    exact (vinerylaw01_CursorBack.walk W [] (MS.nil _) _ _ _ R0 _ _ k true hk).mono fun v W' ⟨hv, hc, _⟩ => ⟨hv, hc⟩
theorem CursorBack_holds : Rows.CursorBackSaid :=
  OpenClaim.holds_of_wide 5 Try.f5 rfl rfl rfl rfl rfl rfl rfl ⟨rfl, rfl, rfl, rfl, rfl⟩ rfl rfl rfl rfl rfl (by kernel_rfl) Try.func5 (by kernel_rfl)
    (of_decide_eq_true (by kernel_rfl)) (by unfold Func.isWrapper; first | (rw [if_pos (by decide +kernel)]; kernel_rfl) | (rw [if_neg (by decide +kernel)]; exact ⟨rfl, rfl⟩))
    (fun os started H enc _ => CursorBack_lifted os started H enc)
end Go.Proofs.Ytmgjcnjcnejjkaa
