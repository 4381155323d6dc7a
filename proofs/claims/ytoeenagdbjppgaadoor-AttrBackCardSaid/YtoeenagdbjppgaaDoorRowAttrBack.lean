/- Attributes that are right are read from what is written of them, the same, also when it is joined and split, whatever the attributes. -/
import Derived.Test.YtoeenagdbjppgaaDoorLawAttrBack
import Derived.Test.YtoeenagdbjppgaaDoorEngS
import Derived.Test.YtoeenagdbjppgaaDoorRows
import Derived.Test.YtoeenagdbjppgaaDoorCards
import Derived.Test.YtoeenagdbjppgaaDoorTie
set_option linter.unusedVariables false
set_option linter.unusedSimpArgs false
namespace Go.Proofs.YtoeenagdbjppgaaDoor
open Go.E Go.ChangeShapes Go.WideShapes Go.ChangeAt Go.RowKit
theorem AttrBack_own : ownKnob Tryd.prog.godebug = none := by kernel_rfl
theorem AttrBack_laidOut : laidOutB Tryd.prog = true := by kernel_rfl
theorem rdrS_api_Segment : Rdr Tryd.prog 93 rS_api_Segment okS_api_Segment :=
  rdr_struct (by kernel_rfl) (by kernel_rfl) (rdrf_cons (t := 4) (rdr_bool (by kernel_rfl) (by kernel_rfl)) (rdrf_last (t := 91) (rdr_slice (by kernel_rfl) (by kernel_rfl) (nb := 8) (by kernel_rfl) (rdr_int (by kernel_rfl) (by kernel_rfl)) (by kernel_rfl)))) (fun x : S_api_Segment => (x.Set, x.AS)) (fun y => ⟨⟨y.1, y.2⟩, rfl, fun h => ⟨h.1, h.2⟩⟩)
theorem rdrS_api_Addr : Rdr Tryd.prog 24 rS_api_Addr okS_api_Addr :=
  rdr_struct (by kernel_rfl) (by kernel_rfl) (rdrf_cons (t := 3) (rdr_int (by kernel_rfl) (by kernel_rfl)) (rdrf_last (t := 22) (rdr_arr (e := 5) (by kernel_rfl) (by kernel_rfl) (by kernel_rfl) (by kernel_rfl)))) (fun x : S_api_Addr => (x.Size, x.B)) (fun y => ⟨⟨y.1, y.2⟩, rfl, fun h => ⟨h.1, h.2⟩⟩)
theorem rdrS_api_Tunnel : Rdr Tryd.prog 27 rS_api_Tunnel okS_api_Tunnel :=
  rdr_struct (by kernel_rfl) (by kernel_rfl) (rdrf_cons (t := 4) (rdr_bool (by kernel_rfl) (by kernel_rfl)) (rdrf_cons (t := 3) (rdr_int (by kernel_rfl) (by kernel_rfl)) (rdrf_cons (t := 3) (rdr_int (by kernel_rfl) (by kernel_rfl)) (rdrf_cons (t := 24) rdrS_api_Addr (rdrf_last (t := 25) (rdr_slice (by kernel_rfl) (by kernel_rfl) (nb := 1) (by kernel_rfl) (rdr_int (by kernel_rfl) (by kernel_rfl)) (by kernel_rfl))))))) (fun x : S_api_Tunnel => (x.Leaf, x.Kind, x.Label, x.Root, x.Id)) (fun y => ⟨⟨y.1, y.2.1, y.2.2.1, y.2.2.2.1, y.2.2.2.2⟩, rfl, fun h => ⟨h.1, h.2.1, h.2.2.1, h.2.2.2.1, h.2.2.2.2⟩⟩)
theorem rdrS_api_Attrs : Rdr Tryd.prog 57 rS_api_Attrs okS_api_Attrs :=
  rdr_struct (by kernel_rfl) (by kernel_rfl) (rdrf_cons (t := 3) (rdr_int (by kernel_rfl) (by kernel_rfl)) (rdrf_cons (t := 52) (rdr_slice (by kernel_rfl) (by kernel_rfl) (nb := 32) (by kernel_rfl) rdrS_api_Segment (by kernel_rfl)) (rdrf_cons (t := 3) (rdr_int (by kernel_rfl) (by kernel_rfl)) (rdrf_cons (t := 3) (rdr_int (by kernel_rfl) (by kernel_rfl)) (rdrf_cons (t := 24) rdrS_api_Addr (rdrf_cons (t := 53) (rdr_slice (by kernel_rfl) (by kernel_rfl) (nb := 24) (by kernel_rfl) rdrS_api_Addr (by kernel_rfl)) (rdrf_cons (t := 54) (rdr_slice (by kernel_rfl) (by kernel_rfl) (nb := 8) (by kernel_rfl) (rdr_arr (e := 5) (by kernel_rfl) (by kernel_rfl) (by kernel_rfl) (by kernel_rfl)) (by kernel_rfl)) (rdrf_last (t := 55) (rdr_slice (by kernel_rfl) (by kernel_rfl) (nb := 72) (by kernel_rfl) rdrS_api_Tunnel (by kernel_rfl)))))))))) (fun x : S_api_Attrs => (x.Origin, x.Path, x.Med, x.Pref, x.Originator, x.Clusters, x.Exts, x.Tunnels)) (fun y => ⟨⟨y.1, y.2.1, y.2.2.1, y.2.2.2.1, y.2.2.2.2.1, y.2.2.2.2.2.1, y.2.2.2.2.2.2.1, y.2.2.2.2.2.2.2⟩, rfl, fun h => ⟨h.1, h.2.1, h.2.2.1, h.2.2.2.1, h.2.2.2.2.1, h.2.2.2.2.2.1, h.2.2.2.2.2.2.1, h.2.2.2.2.2.2.2⟩⟩)
set_option maxRecDepth 100000 in
theorem AttrBack_lifted (os : Os) (started : os.Started) (H : Type) (enc : TypeId × Value → H) :
    ReturnsInHanded {} Tryd.checked os 11 .any (fun w args => (Rows.attrBackSpec.pre enc Tryd.prog Tryd.f11 Rows.attrBackRow.domain false w args ∧ laidMetH Tryd.prog Rows.attrBackRow.laid w) ∧ sizedMet enc Tryd.prog Tryd.f11 (OpenSpec.ofChange Rows.attrBackSpec) false w args) (Rows.attrBackSpec.post enc Tryd.prog Tryd.f11 false true false false) := by
  refine lift_laid (C := Tryd.checked) (tb := 4) (laid := Rows.attrBackRow.laid) AttrBack_own started (by kernel_rfl) Tryd.func11
    (ChangeSpec.witness_shaped (enc := enc) (C := Tryd.checked) (os := os) (X := fun w _ => laidMetH Tryd.prog Rows.attrBackRow.laid w) false (World.laidAll Tryd.prog os Rows.attrBackRow.laid) #[.agg (cS_api_Attrs (⟨(0 : Int), ([] : List S_api_Segment), (0 : Int), (0 : Int), (⟨(0 : Int), (List.replicate 16 (0 : Int))⟩ : S_api_Addr), ([] : List S_api_Addr), ([] : List (List Int)), ([] : List S_api_Tunnel)⟩ : S_api_Attrs) none 0 none 0 none 0 none 0).toArray] 8 (World.laidAll_os _ _ _) (World.shaped_of_ZipB (by kernel_rfl) (by kernel_rfl)) (by kernel_rfl) (by kernel_rfl) (by kernel_rfl)
      (by rw [MakeChecks.laidMetH_plain _ _ _ (by kernel_rfl)]; exact laidMet_laidAll _ (by kernel_rfl) (by kernel_rfl)))
    AttrBack_laidOut (by kernel_rfl) (by kernel_rfl) (by kernel_rfl) rfl (fun ds h => ?_) ?_
  · rw [Tryd.params11] at h
    match ds, h with
    | [_], _ => rfl
  · intro W base args ds p hval hA hsz _ _
    rw [Tryd.params11] at hval
    have hA' : DataW.TrodAll enc Tryd.prog W 0 (fun _ => true) true [57] args.toList ds p := hA
    obtain ⟨v0, d0, rfl, rfl, h0⟩ := trodAll_one hA'
    have hsz' : (DataW.weightsEach Tryd.prog [57] [d0]).all (· ≤ reachBytes) = true := hsz
    obtain ⟨x0, cs0, rfl, R0, k0⟩ := arg_struct Tryd.underlying57 rdrS_api_Attrs (hval 0 57 v0 rfl rfl) h0 (weights_at hsz' 0 rfl rfl)
    obtain ⟨aou0_0, capu0_0, aou0_1, capu0_1, aou0_2, capu0_2, aou0_3, capu0_3, rfl, fu0_0, fu0_1, fu0_2, fu0_3⟩ := rS_api_Attrs.open R0
    obtain ⟨k, hk⟩ := AttrBack.law x0 k0
    exact (vinerylaw09_AttrBack.walk W [] (MS.nil _) _ _ _ fu0_0 _ _ fu0_1 _ _ fu0_2 _ _ fu0_3 k true hk).mono fun v W' ⟨hv, hc, _⟩ => ⟨hv, hc⟩
theorem AttrBack_holds : Rows.AttrBackSaid :=
  OpenClaim.holds_of_wide 11 Tryd.f11 rfl rfl rfl rfl rfl rfl rfl ⟨rfl, rfl, rfl, rfl, rfl⟩ rfl rfl rfl rfl rfl (by kernel_rfl) Tryd.func11 (by kernel_rfl)
    (of_decide_eq_true (by kernel_rfl)) (by unfold Func.isWrapper; first | (rw [if_pos (by decide +kernel)]; kernel_rfl) | (rw [if_neg (by decide +kernel)]; exact ⟨rfl, rfl⟩))
    (fun os started H enc _ => AttrBack_lifted os started H enc)
theorem AttrBackCard_holds : Rows.AttrBackCardSaid :=
  Claim7.holds_tied_plain_at .later [] [.data, .pinned] true (true, "010f159d3c9d15f1f4ffb49405e4b1da56e2b59129afda1c73cbc307dac4d4b7") true AttrBack_holds (fun _ h => by cases h) (by kernel_rfl) (fun _ h => by cases h) attrBack_row_tie rfl ⟨rfl, rfl⟩ (by kernel_rfl) rfl
    (fun f fn hf hfn => by
      obtain rfl : f = 11 := Option.some.inj ((show Tryd.prog.funcNamed "vinery/vinerylaw09.AttrBack" = some 11 by kernel_rfl).symm.trans hf) |>.symm
      obtain rfl : fn = Tryd.f11 := (Option.some.inj (Tryd.func11.symm.trans hfn)).symm
      exact ⟨by kernel_rfl, fun j t ht => by
        rw [Tryd.params11] at ht
        have hm : t ∈ [57] := by simpa using Array.mem_of_getElem? ht
        have hall : ([57].all fun u => !Tryd.prog.wantsStandIn u) = true := by kernel_rfl
        exact (show Tryd.prog.wantsStandIn t = false by simpa using List.all_eq_true.1 hall t hm)⟩)
    (by kernel_rfl)
end Go.Proofs.YtoeenagdbjppgaaDoor
