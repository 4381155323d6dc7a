/- For every input the law CursorOrders returns true, and its arguments read behind the call as they read before; no condition. -/
import Derived.Test.YtmgjcnjcnejjkaaLawCursorOrders
import Derived.Test.YtmgjcnjcnejjkaaEngR
import Derived.Test.YtmgjcnjcnejjkaaRows
set_option linter.unusedVariables false
set_option linter.unusedSimpArgs false
namespace Go.Proofs.Ytmgjcnjcnejjkaa
open Go.E Go.ChangeShapes Go.WideShapes Go.ChangeAt Go.RowKit
theorem CursorOrders_own : ownKnob Try.prog.godebug = none := by kernel_rfl
theorem CursorOrders_laidOut : laidOutB Try.prog = true := by kernel_rfl
set_option maxRecDepth 100000 in
theorem CursorOrders_lifted (os : Os) (started : os.Started) (H : Type) (enc : TypeId × Value → H) :
    ReturnsInHanded {} Try.checked os 4 .any (Rows.cursorOrdersSpec.pre6 enc Try.prog Try.f4 Rows.cursorOrdersRow.domain false) (Rows.cursorOrdersSpec.post enc Try.prog Try.f4 false true false false) := by
  refine lift_true (C := Try.checked) (tb := 4) CursorOrders_own started (by kernel_rfl) Try.func4
    (ChangeSpec.witness6 (enc := enc) (C := Try.checked) false ⟨#[], #[.slice none 0 0, .slice none 0 0, .slice none 0 0], []⟩ 8 (by kernel_rfl) (by kernel_rfl) (by kernel_rfl) (by kernel_rfl))
    CursorOrders_laidOut (by kernel_rfl) (by kernel_rfl) (by kernel_rfl) rfl (fun ds h => ?_) ?_
  · rw [Try.params4] at h
    match ds, h with
    | [_, _, _], _ => rfl
  · intro W base args ds p hval hA hsz _
    rw [Try.params4] at hval
    have hA' : DataW.TrodAll enc Try.prog W 0 (fun _ => true) true [22, 22, 22] args.toList ds p := hA
    obtain ⟨v0, v1, v2, d0, d1, d2, p0, p1, p2, rfl, rfl, rfl, h0, h1, h2⟩ := trodAll_three hA'
    have hsz' : (DataW.weightsEach Try.prog [22, 22, 22] [d0, d1, d2]).all (· ≤ reachBytes) = true := hsz
    obtain ⟨x0, ao0, cap0, rfl, R0, k0⟩ := arg_slice (by kernel_rfl) (rdr_slice (by kernel_rfl) (by kernel_rfl) (nb := 1) (by kernel_rfl) (rdr_int (by kernel_rfl) (by kernel_rfl)) (by kernel_rfl)) (hval 0 22 v0 rfl rfl) h0 (weights_at hsz' 0 rfl rfl)
    obtain ⟨x1, ao1, cap1, rfl, R1, k1⟩ := arg_slice (by kernel_rfl) (rdr_slice (by kernel_rfl) (by kernel_rfl) (nb := 1) (by kernel_rfl) (rdr_int (by kernel_rfl) (by kernel_rfl)) (by kernel_rfl)) (hval 1 22 v1 rfl rfl) h1 (weights_at hsz' 1 rfl rfl)
    obtain ⟨x2, ao2, cap2, rfl, R2, k2⟩ := arg_slice (by kernel_rfl) (rdr_slice (by kernel_rfl) (by kernel_rfl) (nb := 1) (by kernel_rfl) (rdr_int (by kernel_rfl) (by kernel_rfl)) (by kernel_rfl)) (hval 2 22 v2 rfl rfl) h2 (weights_at hsz' 2 rfl rfl)
    obtain ⟨k, hk⟩ := CursorOrders.law x0 k0 x1 k1 x2 k2
    exact (vinerylaw01_CursorOrders.walk W [] (MS.nil _) _ _ _ R0 _ _ _ R1 _ _ _ R2 k true hk).mono fun v W' ⟨hv, hc, _⟩ => ⟨hv, hc⟩
theorem CursorOrders_holds : Rows.CursorOrdersSaid :=
  OpenClaim.holds_of_wide 4 Try.f4 rfl rfl rfl rfl rfl rfl rfl ⟨rfl, rfl, rfl, rfl, rfl⟩ rfl rfl rfl rfl rfl (by kernel_rfl) Try.func4 (by kernel_rfl)
    (of_decide_eq_true (by kernel_rfl)) (by unfold Func.isWrapper; first | (rw [if_pos (by decide +kernel)]; kernel_rfl) | (rw [if_neg (by decide +kernel)]; exact ⟨rfl, rfl⟩))
    (fun os started H enc _ => CursorOrders_lifted os started H enc)
end Go.Proofs.Ytmgjcnjcnejjkaa
