/- For every tunnel and every row of bytes: which tunnels are right, their bytes, and which ones bytes are, is as the document says; what was lent stands as it did. -/
import Derived.Test.YtoeenagdbjppgaaDoorLawPmsiCodes
import Derived.Test.YtoeenagdbjppgaaDoorEngS
import Derived.Test.YtoeenagdbjppgaaDoorRows
import Derived.Test.YtoeenagdbjppgaaDoorCards
import Derived.Test.YtoeenagdbjppgaaDoorTie
set_option linter.unusedVariables false
set_option linter.unusedSimpArgs false
namespace Go.Proofs.YtoeenagdbjppgaaDoor
open Go.E Go.ChangeShapes Go.WideShapes Go.ChangeAt Go.RowKit
theorem PmsiCodes_own : ownKnob Tryd.prog.godebug = none := by kernel_rfl
theorem PmsiCodes_laidOut : laidOutB Tryd.prog = true := by kernel_rfl
theorem rdrS_api_Addr : Rdr Tryd.prog 24 rS_api_Addr okS_api_Addr :=
  rdr_struct (by kernel_rfl) (by kernel_rfl) (rdrf_cons (t := 3) (rdr_int (by kernel_rfl) (by kernel_rfl)) (rdrf_last (t := 22) (rdr_arr (e := 5) (by kernel_rfl) (by kernel_rfl) (by kernel_rfl) (by kernel_rfl)))) (fun x : S_api_Addr => (x.Size, x.B)) (fun y => ⟨⟨y.1, y.2⟩, rfl, fun h => ⟨h.1, h.2⟩⟩)
theorem rdrS_api_Tunnel : Rdr Tryd.prog 27 rS_api_Tunnel okS_api_Tunnel :=
  rdr_struct (by kernel_rfl) (by kernel_rfl) (rdrf_cons (t := 4) (rdr_bool (by kernel_rfl) (by kernel_rfl)) (rdrf_cons (t := 3) (rdr_int (by kernel_rfl) (by kernel_rfl)) (rdrf_cons (t := 3) (rdr_int (by kernel_rfl) (by kernel_rfl)) (rdrf_cons (t := 24) rdrS_api_Addr (rdrf_last (t := 25) (rdr_slice (by kernel_rfl) (by kernel_rfl) (nb := 1) (by kernel_rfl) (rdr_int (by kernel_rfl) (by kernel_rfl)) (by kernel_rfl))))))) (fun x : S_api_Tunnel => (x.Leaf, x.Kind, x.Label, x.Root, x.Id)) (fun y => ⟨⟨y.1, y.2.1, y.2.2.1, y.2.2.2.1, y.2.2.2.2⟩, rfl, fun h => ⟨h.1, h.2.1, h.2.2.1, h.2.2.2.1, h.2.2.2.2⟩⟩)
set_option maxRecDepth 100000 in
theorem PmsiCodes_lifted (os : Os) (started : os.Started) (H : Type) (enc : TypeId × Value → H) :
    ReturnsInHanded {} Tryd.checked os 3 .any (fun w args => (Rows.pmsiCodesSpec.pre enc Tryd.prog Tryd.f3 Rows.pmsiCodesRow.domain false w args ∧ laidMetH Tryd.prog Rows.pmsiCodesRow.laid w) ∧ sizedMet enc Tryd.prog Tryd.f3 (OpenSpec.ofChange Rows.pmsiCodesSpec) false w args) (Rows.pmsiCodesSpec.post enc Tryd.prog Tryd.f3 false true false false) := by
  refine lift_laid (C := Tryd.checked) (tb := 4) (laid := Rows.pmsiCodesRow.laid) PmsiCodes_own started (by kernel_rfl) Tryd.func3
    (ChangeSpec.witness_shaped (enc := enc) (C := Tryd.checked) (os := os) (X := fun w _ => laidMetH Tryd.prog Rows.pmsiCodesRow.laid w) false (World.laidAll Tryd.prog os Rows.pmsiCodesRow.laid) #[.agg (cS_api_Tunnel (⟨false, (0 : Int), (0 : Int), (⟨(0 : Int), (List.replicate 16 (0 : Int))⟩ : S_api_Addr), ([] : List Int)⟩ : S_api_Tunnel) none 0).toArray, .slice none 0 0] 8 (World.laidAll_os _ _ _) (World.shaped_of_ZipB (by kernel_rfl) (by kernel_rfl)) (by kernel_rfl) (by kernel_rfl) (by kernel_rfl)
      (by rw [MakeChecks.laidMetH_plain _ _ _ (by kernel_rfl)]; exact laidMet_laidAll _ (by kernel_rfl) (by kernel_rfl)))
    PmsiCodes_laidOut (by kernel_rfl) (by kernel_rfl) (by kernel_rfl) rfl (fun ds h => ?_) ?_
  · rw [Tryd.params3] at h
    match ds, h with
    | [_, _], _ => rfl
  · intro W base args ds p hval hA hsz _ _
    rw [Tryd.params3] at hval
    have hA' : DataW.TrodAll enc Tryd.prog W 0 (fun _ => true) true [27, 25] args.toList ds p := hA
    obtain ⟨v0, v1, d0, d1, p0, p1, rfl, rfl, rfl, h0, h1⟩ := trodAll_two hA'
    have hsz' : (DataW.weightsEach Tryd.prog [27, 25] [d0, d1]).all (· ≤ reachBytes) = true := hsz
    obtain ⟨x0, cs0, rfl, R0, k0⟩ := arg_struct Tryd.underlying27 rdrS_api_Tunnel (hval 0 27 v0 rfl rfl) h0 (weights_at hsz' 0 rfl rfl)
    obtain ⟨aou0_0, capu0_0, rfl, fu0_0⟩ := rS_api_Tunnel.open R0
    obtain ⟨x1, ao1, cap1, rfl, R1, k1⟩ := arg_slice (by kernel_rfl) (rdr_slice (by kernel_rfl) (by kernel_rfl) (nb := 1) (by kernel_rfl) (rdr_int (by kernel_rfl) (by kernel_rfl)) (by kernel_rfl)) (hval 1 25 v1 rfl rfl) h1 (weights_at hsz' 1 rfl rfl)
    obtain ⟨k, hk⟩ := PmsiCodes.law x0 k0 x1 k1
    exact (vinerylaw06_PmsiCodes.walk W [] (MS.nil _) _ _ _ fu0_0 _ _ _ R1 k true hk).mono fun v W' ⟨hv, hc, _⟩ => ⟨hv, hc⟩
theorem PmsiCodes_holds : Rows.PmsiCodesSaid :=
  OpenClaim.holds_of_wide 3 Tryd.f3 rfl rfl rfl rfl rfl rfl rfl ⟨rfl, rfl, rfl, rfl, rfl⟩ rfl rfl rfl rfl rfl (by kernel_rfl) Tryd.func3 (by kernel_rfl)
    (of_decide_eq_true (by kernel_rfl)) (by unfold Func.isWrapper; first | (rw [if_pos (by decide +kernel)]; kernel_rfl) | (rw [if_neg (by decide +kernel)]; exact ⟨rfl, rfl⟩))
    (fun os started H enc _ => PmsiCodes_lifted os started H enc)
theorem PmsiCodesCard_holds : Rows.PmsiCodesCardSaid :=
  Claim7.holds_tied_plain_at .later [] [.data, .pinned] true (true, "010f159d3c9d15f1f4ffb49405e4b1da56e2b59129afda1c73cbc307dac4d4b7") true PmsiCodes_holds (fun _ h => by cases h) (by kernel_rfl) (fun _ h => by cases h) pmsiCodes_row_tie rfl ⟨rfl, rfl⟩ (by kernel_rfl) rfl
    (fun f fn hf hfn => by
      obtain rfl : f = 3 := Option.some.inj ((show Tryd.prog.funcNamed "vinery/vinerylaw06.PmsiCodes" = some 3 by kernel_rfl).symm.trans hf) |>.symm
      obtain rfl : fn = Tryd.f3 := (Option.some.inj (Tryd.func3.symm.trans hfn)).symm
      exact ⟨by kernel_rfl, fun j t ht => by
        rw [Tryd.params3] at ht
        have hm : t ∈ [27, 25] := by simpa using Array.mem_of_getElem? ht
        have hall : ([27, 25].all fun u => !Tryd.prog.wantsStandIn u) = true := by kernel_rfl
        exact (show Tryd.prog.wantsStandIn t = false by simpa using List.all_eq_true.1 hall t hm)⟩)
    (by kernel_rfl)
end Go.Proofs.YtoeenagdbjppgaaDoor
