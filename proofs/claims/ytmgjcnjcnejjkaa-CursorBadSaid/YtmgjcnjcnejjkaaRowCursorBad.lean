/- For every input the law CursorBad returns true, and its arguments read behind the call as they read before; no condition. -/
import Derived.Test.YtmgjcnjcnejjkaaLawCursorBad
import Derived.Test.YtmgjcnjcnejjkaaEngR
import Derived.Test.YtmgjcnjcnejjkaaRows
set_option linter.unusedVariables false
set_option linter.unusedSimpArgs false
namespace Go.Proofs.Ytmgjcnjcnejjkaa
open Go.E Go.ChangeShapes Go.WideShapes Go.ChangeAt Go.RowKit
theorem CursorBad_own : ownKnob Try.prog.godebug = none := by kernel_rfl
theorem CursorBad_laidOut : laidOutB Try.prog = true := by kernel_rfl
theorem rdrS_vinerylaw01_Act : Rdr Try.prog 46 rS_vinerylaw01_Act okS_vinerylaw01_Act :=
  rdr_struct (by kernel_rfl) (by kernel_rfl) (rdrf_cons (t := 3) (rdr_int (by kernel_rfl) (by kernel_rfl)) (rdrf_last (t := 3) (rdr_int (by kernel_rfl) (by kernel_rfl)))) (fun x : S_vinerylaw01_Act => (x.Do, x.N)) (fun y => ⟨⟨y.1, y.2⟩, rfl, fun h => ⟨h.1, h.2⟩⟩)
set_option maxRecDepth 100000 in
theorem CursorBad_lifted (os : Os) (started : os.Started) (H : Type) (enc : TypeId × Value → H) :
    ReturnsInHanded {} Try.checked os 6 .any (Rows.cursorBadSpec.pre6 enc Try.prog Try.f6 Rows.cursorBadRow.domain false) (Rows.cursorBadSpec.post enc Try.prog Try.f6 false true false false) := by
  refine lift_true (C := Try.checked) (tb := 4) CursorBad_own started (by kernel_rfl) Try.func6
    (ChangeSpec.witness6 (enc := enc) (C := Try.checked) false ⟨#[], #[.slice none 0 0, .slice none 0 0], []⟩ 8 (by kernel_rfl) (by kernel_rfl) (by kernel_rfl) (by kernel_rfl))
    CursorBad_laidOut (by kernel_rfl) (by kernel_rfl) (by kernel_rfl) rfl (fun ds h => ?_) ?_
  · rw [Try.params6] at h
    match ds, h with
    | [_, _], _ => rfl
  · intro W base args ds p hval hA hsz _
    rw [Try.params6] at hval
    have hA' : DataW.TrodAll enc Try.prog W 0 (fun _ => true) true [22, 44] args.toList ds p := hA
    obtain ⟨v0, v1, d0, d1, p0, p1, rfl, rfl, rfl, h0, h1⟩ := trodAll_two hA'
    have hsz' : (DataW.weightsEach Try.prog [22, 44] [d0, d1]).all (· ≤ reachBytes) = true := hsz
    obtain ⟨x0, ao0, cap0, rfl, R0, k0⟩ := arg_slice (by kernel_rfl) (rdr_slice (by kernel_rfl) (by kernel_rfl) (nb := 1) (by kernel_rfl) (rdr_int (by kernel_rfl) (by kernel_rfl)) (by kernel_rfl)) (hval 0 22 v0 rfl rfl) h0 (weights_at hsz' 0 rfl rfl)
    obtain ⟨x1, ao1, cap1, rfl, R1, k1⟩ := arg_slice (by kernel_rfl) (rdr_slice (by kernel_rfl) (by kernel_rfl) (nb := 16) (by kernel_rfl) rdrS_vinerylaw01_Act (by kernel_rfl)) (hval 1 44 v1 rfl rfl) h1 (weights_at hsz' 1 rfl rfl)
    obtain ⟨k, hk⟩ := CursorBad.law x0 k0 x1 k1
    exact (vinerylaw01_CursorBad.walk W [] (MS.nil _) _ _ _ R0 _ _ _ R1 k true hk).mono fun v W' ⟨hv, hc, _⟩ => ⟨hv, hc⟩
theorem CursorBad_holds : Rows.CursorBadSaid :=
  OpenClaim.holds_of_wide 6 Try.f6 rfl rfl rfl rfl rfl rfl rfl ⟨rfl, rfl, rfl, rfl, rfl⟩ rfl rfl rfl rfl rfl (by kernel_rfl) Try.func6 (by kernel_rfl)
    (of_decide_eq_true (by kernel_rfl)) (by unfold Func.isWrapper; first | (rw [if_pos (by decide +kernel)]; kernel_rfl) | (rw [if_neg (by decide +kernel)]; exact ⟨rfl, rfl⟩))
    (fun os started H enc _ => CursorBad_lifted os started H enc)
end Go.Proofs.Ytmgjcnjcnejjkaa
