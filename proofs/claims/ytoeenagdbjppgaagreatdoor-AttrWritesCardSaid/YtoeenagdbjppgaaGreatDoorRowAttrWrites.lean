/- Which attributes are right, how they are written, and which ones are the same, is as the document says, whatever the attributes. -/
import Derived.Test.YtoeenagdbjppgaaGreatDoorLawAttrWrites
import Derived.Test.YtoeenagdbjppgaaGreatDoorEngS
import Derived.Test.YtoeenagdbjppgaaGreatDoorRows
import Derived.Test.YtoeenagdbjppgaaGreatDoorCards
import Derived.Test.YtoeenagdbjppgaaGreatDoorTie
set_option linter.unusedVariables false
set_option linter.unusedSimpArgs false
namespace Go.Proofs.YtoeenagdbjppgaaGreatDoor
open Go.E Go.ChangeShapes Go.WideShapes Go.ChangeAt Go.RowKit
theorem AttrWrites_own : ownKnob Tryz.prog.godebug = none := by kernel_rfl
theorem AttrWrites_laidOut : laidOutB Tryz.prog = true := by kernel_rfl
theorem rdrS_api_Segment : Rdr Tryz.prog 49 rS_api_Segment okS_api_Segment :=
  rdr_struct (by kernel_rfl) (by kernel_rfl) (rdrf_cons (t := 4) (rdr_bool (by kernel_rfl) (by kernel_rfl)) (rdrf_last (t := 47) (rdr_slice (by kernel_rfl) (by kernel_rfl) (nb := 8) (by kernel_rfl) (rdr_int (by kernel_rfl) (by kernel_rfl)) (by kernel_rfl)))) (fun x : S_api_Segment => (x.Set, x.AS)) (fun y => ⟨⟨y.1, y.2⟩, rfl, fun h => ⟨h.1, h.2⟩⟩)
theorem rdrS_api_Addr : Rdr Tryz.prog 25 rS_api_Addr okS_api_Addr :=
  rdr_struct (by kernel_rfl) (by kernel_rfl) (rdrf_cons (t := 3) (rdr_int (by kernel_rfl) (by kernel_rfl)) (rdrf_last (t := 23) (rdr_arr (e := 5) (by kernel_rfl) (by kernel_rfl) (by kernel_rfl) (by kernel_rfl)))) (fun x : S_api_Addr => (x.Size, x.B)) (fun y => ⟨⟨y.1, y.2⟩, rfl, fun h => ⟨h.1, h.2⟩⟩)
theorem rdrS_api_Tunnel : Rdr Tryz.prog 51 rS_api_Tunnel okS_api_Tunnel :=
  rdr_struct (by kernel_rfl) (by kernel_rfl) (rdrf_cons (t := 4) (rdr_bool (by kernel_rfl) (by kernel_rfl)) (rdrf_cons (t := 3) (rdr_int (by kernel_rfl) (by kernel_rfl)) (rdrf_cons (t := 3) (rdr_int (by kernel_rfl) (by kernel_rfl)) (rdrf_cons (t := 25) rdrS_api_Addr (rdrf_last (t := 42) (rdr_slice (by kernel_rfl) (by kernel_rfl) (nb := 1) (by kernel_rfl) (rdr_int (by kernel_rfl) (by kernel_rfl)) (by kernel_rfl))))))) (fun x : S_api_Tunnel => (x.Leaf, x.Kind, x.Label, x.Root, x.Id)) (fun y => ⟨⟨y.1, y.2.1, y.2.2.1, y.2.2.2.1, y.2.2.2.2⟩, rfl, fun h => ⟨h.1, h.2.1, h.2.2.1, h.2.2.2.1, h.2.2.2.2⟩⟩)
theorem rdrS_api_Attrs : Rdr Tryz.prog 30 rS_api_Attrs okS_api_Attrs :=
  rdr_struct (by kernel_rfl) (by kernel_rfl) (rdrf_cons (t := 3) (rdr_int (by kernel_rfl) (by kernel_rfl)) (rdrf_cons (t := 22) (rdr_slice (by kernel_rfl) (by kernel_rfl) (nb := 32) (by kernel_rfl) rdrS_api_Segment (by kernel_rfl)) (rdrf_cons (t := 3) (rdr_int (by kernel_rfl) (by kernel_rfl)) (rdrf_cons (t := 3) (rdr_int (by kernel_rfl) (by kernel_rfl)) (rdrf_cons (t := 25) rdrS_api_Addr (rdrf_cons (t := 26) (rdr_slice (by kernel_rfl) (by kernel_rfl) (nb := 24) (by kernel_rfl) rdrS_api_Addr (by kernel_rfl)) (rdrf_cons (t := 27) (rdr_slice (by kernel_rfl) (by kernel_rfl) (nb := 8) (by kernel_rfl) (rdr_arr (e := 5) (by kernel_rfl) (by kernel_rfl) (by kernel_rfl) (by kernel_rfl)) (by kernel_rfl)) (rdrf_last (t := 28) (rdr_slice (by kernel_rfl) (by kernel_rfl) (nb := 72) (by kernel_rfl) rdrS_api_Tunnel (by kernel_rfl)))))))))) (fun x : S_api_Attrs => (x.Origin, x.Path, x.Med, x.Pref, x.Originator, x.Clusters, x.Exts, x.Tunnels)) (fun y => ⟨⟨y.1, y.2.1, y.2.2.1, y.2.2.2.1, y.2.2.2.2.1, y.2.2.2.2.2.1, y.2.2.2.2.2.2.1, y.2.2.2.2.2.2.2⟩, rfl, fun h => ⟨h.1, h.2.1, h.2.2.1, h.2.2.2.1, h.2.2.2.2.1, h.2.2.2.2.2.1, h.2.2.2.2.2.2.1, h.2.2.2.2.2.2.2⟩⟩)
set_option maxRecDepth 100000 in
theorem AttrWrites_lifted (os : Os) (started : os.Started) (H : Type) (enc : TypeId × Value → H) :
    ReturnsInHanded {} Tryz.checked os 3 .any (fun w args => (Rows.attrWritesSpec.pre enc Tryz.prog Tryz.f3 Rows.attrWritesRow.domain false w args ∧ laidMetH Tryz.prog Rows.attrWritesRow.laid w) ∧ sizedMet enc Tryz.prog Tryz.f3 (OpenSpec.ofChange Rows.attrWritesSpec) false w args) (Rows.attrWritesSpec.post enc Tryz.prog Tryz.f3 false true false false) := by
  refine lift_laid (C := Tryz.checked) (tb := 4) (laid := Rows.attrWritesRow.laid) AttrWrites_own started (by kernel_rfl) Tryz.func3
    (ChangeSpec.witness_shaped (enc := enc) (C := Tryz.checked) (os := os) (X := fun w _ => laidMetH Tryz.prog Rows.attrWritesRow.laid w) false (World.laidAll Tryz.prog os Rows.attrWritesRow.laid) #[.agg (cS_api_Attrs (⟨(0 : Int), ([] : List S_api_Segment), (0 : Int), (0 : Int), (⟨(0 : Int), (List.replicate 16 (0 : Int))⟩ : S_api_Addr), ([] : List S_api_Addr), ([] : List (List Int)), ([] : List S_api_Tunnel)⟩ : S_api_Attrs) none 0 none 0 none 0 none 0).toArray, .agg (cS_api_Attrs (⟨(0 : Int), ([] : List S_api_Segment), (0 : Int), (0 : Int), (⟨(0 : Int), (List.replicate 16 (0 : Int))⟩ : S_api_Addr), ([] : List S_api_Addr), ([] : List (List Int)), ([] : List S_api_Tunnel)⟩ : S_api_Attrs) none 0 none 0 none 0 none 0).toArray] 8 (World.laidAll_os _ _ _) (World.shaped_of_ZipB (by kernel_rfl) (by kernel_rfl)) (by kernel_rfl) (by kernel_rfl) (by kernel_rfl)
      (by rw [MakeChecks.laidMetH_plain _ _ _ (by kernel_rfl)]; exact laidMet_laidAll _ (by kernel_rfl) (by kernel_rfl)))
    AttrWrites_laidOut (by kernel_rfl) (by kernel_rfl) (by kernel_rfl) rfl (fun ds h => ?_) ?_
  · rw [Tryz.params3] at h
    match ds, h with
    | [_, _], _ => rfl
  · intro W base args ds p hval hA hsz _ _
    rw [Tryz.params3] at hval
    have hA' : DataW.TrodAll enc Tryz.prog W 0 (fun _ => true) true [30, 30] args.toList ds p := hA
    obtain ⟨v0, v1, d0, d1, p0, p1, rfl, rfl, rfl, h0, h1⟩ := trodAll_two hA'
    have hsz' : (DataW.weightsEach Tryz.prog [30, 30] [d0, d1]).all (· ≤ reachBytes) = true := hsz
    obtain ⟨x0, cs0, rfl, R0, k0⟩ := arg_struct Tryz.underlying30 rdrS_api_Attrs (hval 0 30 v0 rfl rfl) h0 (weights_at hsz' 0 rfl rfl)
    obtain ⟨aou0_0, capu0_0, aou0_1, capu0_1, aou0_2, capu0_2, aou0_3, capu0_3, rfl, fu0_0, fu0_1, fu0_2, fu0_3⟩ := rS_api_Attrs.open R0
    obtain ⟨x1, cs1, rfl, R1, k1⟩ := arg_struct Tryz.underlying30 rdrS_api_Attrs (hval 1 30 v1 rfl rfl) h1 (weights_at hsz' 1 rfl rfl)
    obtain ⟨aou1_0, capu1_0, aou1_1, capu1_1, aou1_2, capu1_2, aou1_3, capu1_3, rfl, fu1_0, fu1_1, fu1_2, fu1_3⟩ := rS_api_Attrs.open R1
    obtain ⟨k, hk⟩ := AttrWrites.law x0 k0 x1 k1
    exact (vinerylaw09_AttrWrites.walk W [] (MS.nil _) _ _ _ fu0_0 _ _ fu0_1 _ _ fu0_2 _ _ fu0_3 _ _ _ fu1_0 _ _ fu1_1 _ _ fu1_2 _ _ fu1_3 k true hk).mono fun v W' ⟨hv, hc, _⟩ => ⟨hv, hc⟩
theorem AttrWrites_holds : Rows.AttrWritesSaid :=
  OpenClaim.holds_of_wide 3 Tryz.f3 rfl rfl rfl rfl rfl rfl rfl ⟨rfl, rfl, rfl, rfl, rfl⟩ rfl rfl rfl rfl rfl (by kernel_rfl) Tryz.func3 (by kernel_rfl)
    (of_decide_eq_true (by kernel_rfl)) (by unfold Func.isWrapper; first | (rw [if_pos (by decide +kernel)]; kernel_rfl) | (rw [if_neg (by decide +kernel)]; exact ⟨rfl, rfl⟩))
    (fun os started H enc _ => AttrWrites_lifted os started H enc)
theorem AttrWritesCard_holds : Rows.AttrWritesCardSaid :=
  Claim7.holds_tied_plain_at .later [] [.data, .pinned] true (true, "14326d9040f005f5948a521431f42cb52cd270d9065128d8ee4598e954fcdfd2") true AttrWrites_holds (fun _ h => by cases h) (by kernel_rfl) (fun _ h => by cases h) attrWrites_row_tie rfl ⟨rfl, rfl⟩ (by kernel_rfl) rfl
    (fun f fn hf hfn => by
      obtain rfl : f = 3 := Option.some.inj ((show Tryz.prog.funcNamed "vinery/vinerylaw09.AttrWrites" = some 3 by kernel_rfl).symm.trans hf) |>.symm
      obtain rfl : fn = Tryz.f3 := (Option.some.inj (Tryz.func3.symm.trans hfn)).symm
      exact ⟨by kernel_rfl, fun j t ht => by
        rw [Tryz.params3] at ht
        have hm : t ∈ [30, 30] := by simpa using Array.mem_of_getElem? ht
        have hall : ([30, 30].all fun u => !Tryz.prog.wantsStandIn u) = true := by kernel_rfl
        exact (show Tryz.prog.wantsStandIn t = false by simpa using List.all_eq_true.1 hall t hm)⟩)
    (by kernel_rfl)
end Go.Proofs.YtoeenagdbjppgaaGreatDoor
