/- For every row of bytes, number, size and second row: Put writes what the document writes, Order orders as the document orders, what was lent stands as it did. -/
import Derived.Test.YtmgjcnjcnejjkaaLawCursorPuts
import Derived.Test.YtmgjcnjcnejjkaaEngR
import Derived.Test.YtmgjcnjcnejjkaaRows
set_option linter.unusedVariables false
set_option linter.unusedSimpArgs false
namespace Go.Proofs.Ytmgjcnjcnejjkaa
open Go.E Go.ChangeShapes Go.WideShapes Go.ChangeAt Go.RowKit
theorem CursorPuts_own : ownKnob Try.prog.godebug = none := by kernel_rfl
theorem CursorPuts_laidOut : laidOutB Try.prog = true := by kernel_rfl
set_option maxRecDepth 100000 in
theorem CursorPuts_lifted (os : Os) (started : os.Started) (H : Type) (enc : TypeId × Value → H) :
    ReturnsInHanded {} Try.checked os 3 .any (Rows.cursorPutsSpec.pre6 enc Try.prog Try.f3 Rows.cursorPutsRow.domain false) (Rows.cursorPutsSpec.post enc Try.prog Try.f3 false true false false) := by
  refine lift_true (C := Try.checked) (tb := 4) CursorPuts_own started (by kernel_rfl) Try.func3
    (ChangeSpec.witness6 (enc := enc) (C := Try.checked) false ⟨#[], #[.slice none 0 0, .int .i64 0, .int .i64 0, .slice none 0 0], []⟩ 8 (by kernel_rfl) (by kernel_rfl) (by kernel_rfl) (by kernel_rfl))
    CursorPuts_laidOut (by kernel_rfl) (by kernel_rfl) (by kernel_rfl) rfl (fun ds h => ?_) ?_
  · rw [Try.params3] at h
    match ds, h with
    | [_, _, _, _], _ => rfl
  · intro W base args ds p hval hA hsz _
    rw [Try.params3] at hval
    have hA' : DataW.TrodAll enc Try.prog W 0 (fun _ => true) true [22, 3, 3, 22] args.toList ds p := hA
    obtain ⟨v0, v1, v2, v3, d0, d1, d2, d3, p0, p1, p2, p3, rfl, rfl, rfl, h0, h1, h2, h3⟩ := trodAll_four hA'
    have hsz' : (DataW.weightsEach Try.prog [22, 3, 3, 22] [d0, d1, d2, d3]).all (· ≤ reachBytes) = true := hsz
    obtain ⟨x0, ao0, cap0, rfl, R0, k0⟩ := arg_slice (by kernel_rfl) (rdr_slice (by kernel_rfl) (by kernel_rfl) (nb := 1) (by kernel_rfl) (rdr_int (by kernel_rfl) (by kernel_rfl)) (by kernel_rfl)) (hval 0 22 v0 rfl rfl) h0 (weights_at hsz' 0 rfl rfl)
    obtain ⟨x1, rfl, k1⟩ := arg_int (k := .i64) (by kernel_rfl) (hval 1 3 v1 rfl rfl) h1
    obtain ⟨x2, rfl, k2⟩ := arg_int (k := .i64) (by kernel_rfl) (hval 2 3 v2 rfl rfl) h2
    obtain ⟨x3, ao3, cap3, rfl, R3, k3⟩ := arg_slice (by kernel_rfl) (rdr_slice (by kernel_rfl) (by kernel_rfl) (nb := 1) (by kernel_rfl) (rdr_int (by kernel_rfl) (by kernel_rfl)) (by kernel_rfl)) (hval 3 22 v3 rfl rfl) h3 (weights_at hsz' 3 rfl rfl)
    obtain ⟨k, hk⟩ := CursorPuts.law x0 k0 x1 k1 x2 k2 x3 k3
    exact (vinerylaw01_CursorPuts.walk W [] (MS.nil _) _ _ _ R0 _ _ _ _ _ R3 k true hk).mono fun v W' ⟨hv, hc, _⟩ => ⟨hv, hc⟩
theorem CursorPuts_holds : Rows.CursorPutsSaid :=
  OpenClaim.holds_of_wide 3 Try.f3 rfl rfl rfl rfl rfl rfl rfl ⟨rfl, rfl, rfl, rfl, rfl⟩ rfl rfl rfl rfl rfl (by kernel_rfl) Try.func3 (by kernel_rfl)
    (of_decide_eq_true (by kernel_rfl)) (by unfold Func.isWrapper; first | (rw [if_pos (by decide +kernel)]; kernel_rfl) | (rw [if_neg (by decide +kernel)]; exact ⟨rfl, rfl⟩))
    (fun os started H enc _ => CursorPuts_lifted os started H enc)
end Go.Proofs.Ytmgjcnjcnejjkaa
