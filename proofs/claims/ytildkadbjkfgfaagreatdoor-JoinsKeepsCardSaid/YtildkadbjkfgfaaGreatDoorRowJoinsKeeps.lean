/- A join that was added is there till it is dropped or its table cleared, and no other one changes it. -/
import Derived.Test.YtildkadbjkfgfaaGreatDoorLawJoinsKeeps
import Derived.Test.YtildkadbjkfgfaaGreatDoorEngS
import Derived.Test.YtildkadbjkfgfaaGreatDoorRows
import Derived.Test.YtildkadbjkfgfaaGreatDoorCards
import Derived.Test.YtildkadbjkfgfaaGreatDoorTie
set_option linter.unusedVariables false
set_option linter.unusedSimpArgs false
namespace Go.Proofs.YtildkadbjkfgfaaGreatDoor
open Go.E Go.ChangeShapes Go.WideShapes Go.ChangeAt Go.RowKit
theorem JoinsKeeps_own : ownKnob Tryz.prog.godebug = none := by kernel_rfl
theorem JoinsKeeps_laidOut : laidOutB Tryz.prog = true := by kernel_rfl
theorem rdrS_api_Addr : Rdr Tryz.prog 25 rS_api_Addr okS_api_Addr :=
  rdr_struct (by kernel_rfl) (by kernel_rfl) (rdrf_cons (t := 3) (rdr_int (by kernel_rfl) (by kernel_rfl)) (rdrf_last (t := 23) (rdr_arr (e := 5) (by kernel_rfl) (by kernel_rfl) (by kernel_rfl) (by kernel_rfl)))) (fun x : S_api_Addr => (x.Size, x.B)) (fun y => ⟨⟨y.1, y.2⟩, rfl, fun h => ⟨h.1, h.2⟩⟩)
theorem rdrS_api_Join : Rdr Tryz.prog 38 rS_api_Join okS_api_Join :=
  rdr_struct (by kernel_rfl) (by kernel_rfl) (rdrf_cons (t := 9) (rdr_str (by kernel_rfl) (by kernel_rfl)) (rdrf_cons (t := 9) (rdr_str (by kernel_rfl) (by kernel_rfl)) (rdrf_cons (t := 25) rdrS_api_Addr (rdrf_last (t := 25) rdrS_api_Addr)))) (fun x : S_api_Join => (x.Vrf, x.Iface, x.Source, x.Group)) (fun y => ⟨⟨y.1, y.2.1, y.2.2.1, y.2.2.2⟩, rfl, fun h => ⟨h.1, h.2.1, h.2.2.1, h.2.2.2⟩⟩)
theorem rdrS_vinerylaw20_Act : Rdr Tryz.prog 46 rS_vinerylaw20_Act okS_vinerylaw20_Act :=
  rdr_struct (by kernel_rfl) (by kernel_rfl) (rdrf_cons (t := 3) (rdr_int (by kernel_rfl) (by kernel_rfl)) (rdrf_last (t := 38) rdrS_api_Join)) (fun x : S_vinerylaw20_Act => (x.Do, x.J)) (fun y => ⟨⟨y.1, y.2⟩, rfl, fun h => ⟨h.1, h.2⟩⟩)
set_option maxRecDepth 100000 in
theorem JoinsKeeps_lifted (os : Os) (started : os.Started) (H : Type) (enc : TypeId × Value → H) :
    ReturnsInHanded {} Tryz.checked os 6 .any (fun w args => (Rows.joinsKeepsSpec.pre enc Tryz.prog Tryz.f6 Rows.joinsKeepsRow.domain false w args ∧ laidMetH Tryz.prog Rows.joinsKeepsRow.laid w) ∧ sizedMet enc Tryz.prog Tryz.f6 (OpenSpec.ofChange Rows.joinsKeepsSpec) false w args) (Rows.joinsKeepsSpec.post enc Tryz.prog Tryz.f6 false true false false) := by
  refine lift_laid (C := Tryz.checked) (tb := 4) (laid := Rows.joinsKeepsRow.laid) JoinsKeeps_own started (by kernel_rfl) Tryz.func6
    (ChangeSpec.witness_shaped (enc := enc) (C := Tryz.checked) (os := os) (X := fun w _ => laidMetH Tryz.prog Rows.joinsKeepsRow.laid w) false (World.laidAll Tryz.prog os Rows.joinsKeepsRow.laid) #[.slice none 0 0, .agg (cS_api_Join (⟨([] : List UInt8), ([] : List UInt8), (⟨(0 : Int), (List.replicate 16 (0 : Int))⟩ : S_api_Addr), (⟨(0 : Int), (List.replicate 16 (0 : Int))⟩ : S_api_Addr)⟩ : S_api_Join)).toArray, .slice none 0 0] 8 (World.laidAll_os _ _ _) (World.shaped_of_ZipB (by kernel_rfl) (by kernel_rfl)) (by kernel_rfl) (by kernel_rfl) (by kernel_rfl)
      (by rw [MakeChecks.laidMetH_plain _ _ _ (by kernel_rfl)]; exact laidMet_laidAll _ (by kernel_rfl) (by kernel_rfl)))
    JoinsKeeps_laidOut (by kernel_rfl) (by kernel_rfl) (by kernel_rfl) rfl (fun ds h => ?_) ?_
  · rw [Tryz.params6] at h
    match ds, h with
    | [_, _, _], _ => rfl
  · intro W base args ds p hval hA hsz _ _
    rw [Tryz.params6] at hval
    have hA' : DataW.TrodAll enc Tryz.prog W 0 (fun _ => true) true [42, 38, 42] args.toList ds p := hA
    obtain ⟨v0, v1, v2, d0, d1, d2, p0, p1, p2, rfl, rfl, rfl, h0, h1, h2⟩ := trodAll_three hA'
    have hsz' : (DataW.weightsEach Tryz.prog [42, 38, 42] [d0, d1, d2]).all (· ≤ reachBytes) = true := hsz
    obtain ⟨x0, ao0, cap0, rfl, R0, k0⟩ := arg_slice (by kernel_rfl) (rdr_slice (by kernel_rfl) (by kernel_rfl) (nb := 88) (by kernel_rfl) rdrS_vinerylaw20_Act (by kernel_rfl)) (hval 0 42 v0 rfl rfl) h0 (weights_at hsz' 0 rfl rfl)
    obtain ⟨x1, cs1, rfl, R1, k1⟩ := arg_struct Tryz.underlying38 rdrS_api_Join (hval 1 38 v1 rfl rfl) h1 (weights_at hsz' 1 rfl rfl)
    obtain rfl := rS_api_Join.open R1
    obtain ⟨x2, ao2, cap2, rfl, R2, k2⟩ := arg_slice (by kernel_rfl) (rdr_slice (by kernel_rfl) (by kernel_rfl) (nb := 88) (by kernel_rfl) rdrS_vinerylaw20_Act (by kernel_rfl)) (hval 2 42 v2 rfl rfl) h2 (weights_at hsz' 2 rfl rfl)
    obtain ⟨k, hk⟩ := JoinsKeeps.law x0 k0 x1 k1 x2 k2
    exact (vinerylaw20_JoinsKeeps.walk W [] (MS.nil _) _ _ _ R0 _ _ _ _ R2 k true hk).mono fun v W' ⟨hv, hc, _⟩ => ⟨hv, hc⟩
theorem JoinsKeeps_holds : Rows.JoinsKeepsSaid :=
  OpenClaim.holds_of_wide 6 Tryz.f6 rfl rfl rfl rfl rfl rfl rfl ⟨rfl, rfl, rfl, rfl, rfl⟩ rfl rfl rfl rfl rfl (by kernel_rfl) Tryz.func6 (by kernel_rfl)
    (of_decide_eq_true (by kernel_rfl)) (by unfold Func.isWrapper; first | (rw [if_pos (by decide +kernel)]; kernel_rfl) | (rw [if_neg (by decide +kernel)]; exact ⟨rfl, rfl⟩))
    (fun os started H enc _ => JoinsKeeps_lifted os started H enc)
theorem JoinsKeepsCard_holds : Rows.JoinsKeepsCardSaid :=
  Claim7.holds_tied_plain_at .later [] [.data, .pinned] true (true, "b690424abd3ddb3d80afa36be7e6de4daff483bc7a72a067f2f74c7c5223e80d") false JoinsKeeps_holds (fun _ h => by cases h) (by kernel_rfl) (fun _ h => by cases h) joinsKeeps_row_tie rfl ⟨rfl, rfl⟩ (by kernel_rfl) rfl
    (fun f fn hf hfn => by
      obtain rfl : f = 6 := Option.some.inj ((show Tryz.prog.funcNamed "vinery/vinerylaw20.JoinsKeeps" = some 6 by kernel_rfl).symm.trans hf) |>.symm
      obtain rfl : fn = Tryz.f6 := (Option.some.inj (Tryz.func6.symm.trans hfn)).symm
      exact ⟨by kernel_rfl, fun j t ht => by
        rw [Tryz.params6] at ht
        have hm : t ∈ [42, 38, 42] := by simpa using Array.mem_of_getElem? ht
        have hall : ([42, 38, 42].all fun u => !Tryz.prog.wantsStandIn u) = true := by kernel_rfl
        exact (show Tryz.prog.wantsStandIn t = false by simpa using List.all_eq_true.1 hall t hm)⟩)
    (by kernel_rfl)
end Go.Proofs.YtildkadbjkfgfaaGreatDoor
