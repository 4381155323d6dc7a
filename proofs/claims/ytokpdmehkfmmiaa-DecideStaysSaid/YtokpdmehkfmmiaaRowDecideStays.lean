/- The best choice stays the best one if others go, and hangs on no order where no two are alike; whatever the choices. -/
import Derived.Test.YtokpdmehkfmmiaaLawDecideStays
import Derived.Test.YtokpdmehkfmmiaaEngR
import Derived.Test.YtokpdmehkfmmiaaRows
set_option linter.unusedVariables false
set_option linter.unusedSimpArgs false
namespace Go.Proofs.Ytokpdmehkfmmiaa
open Go.E Go.ChangeShapes Go.WideShapes Go.ChangeAt Go.RowKit
theorem DecideStays_own : ownKnob Try.prog.godebug = none := by kernel_rfl
theorem DecideStays_laidOut : laidOutB Try.prog = true := by kernel_rfl
theorem rdrS_api_Addr : Rdr Try.prog 30 rS_api_Addr okS_api_Addr :=
  rdr_struct (by kernel_rfl) (by kernel_rfl) (rdrf_cons (t := 3) (rdr_int (by kernel_rfl) (by kernel_rfl)) (rdrf_last (t := 28) (rdr_arr (e := 5) (by kernel_rfl) (by kernel_rfl) (by kernel_rfl) (by kernel_rfl)))) (fun x : S_api_Addr => (x.Size, x.B)) (fun y => ⟨⟨y.1, y.2⟩, rfl, fun h => ⟨h.1, h.2⟩⟩)
theorem rdrS_api_Mroute : Rdr Try.prog 32 rS_api_Mroute okS_api_Mroute :=
  rdr_struct (by kernel_rfl) (by kernel_rfl) (rdrf_cons (t := 3) (rdr_int (by kernel_rfl) (by kernel_rfl)) (rdrf_cons (t := 27) (rdr_arr (e := 5) (by kernel_rfl) (by kernel_rfl) (by kernel_rfl) (by kernel_rfl)) (rdrf_cons (t := 3) (rdr_int (by kernel_rfl) (by kernel_rfl)) (rdrf_cons (t := 30) rdrS_api_Addr (rdrf_cons (t := 30) rdrS_api_Addr (rdrf_cons (t := 30) rdrS_api_Addr (rdrf_last (t := 9) (rdr_str (by kernel_rfl) (by kernel_rfl))))))))) (fun x : S_api_Mroute => (x.Kind, x.RD, x.AS, x.Source, x.Group, x.From, x.Key)) (fun y => ⟨⟨y.1, y.2.1, y.2.2.1, y.2.2.2.1, y.2.2.2.2.1, y.2.2.2.2.2.1, y.2.2.2.2.2.2⟩, rfl, fun h => ⟨h.1, h.2.1, h.2.2.1, h.2.2.2.1, h.2.2.2.2.1, h.2.2.2.2.2.1, h.2.2.2.2.2.2⟩⟩)
theorem rdrS_api_Prefix : Rdr Try.prog 34 rS_api_Prefix okS_api_Prefix :=
  rdr_struct (by kernel_rfl) (by kernel_rfl) (rdrf_cons (t := 30) rdrS_api_Addr (rdrf_last (t := 3) (rdr_int (by kernel_rfl) (by kernel_rfl)))) (fun x : S_api_Prefix => (x.Addr, x.Bits)) (fun y => ⟨⟨y.1, y.2⟩, rfl, fun h => ⟨h.1, h.2⟩⟩)
theorem rdrS_api_Uroute : Rdr Try.prog 36 rS_api_Uroute okS_api_Uroute :=
  rdr_struct (by kernel_rfl) (by kernel_rfl) (rdrf_cons (t := 27) (rdr_arr (e := 5) (by kernel_rfl) (by kernel_rfl) (by kernel_rfl) (by kernel_rfl)) (rdrf_cons (t := 34) rdrS_api_Prefix (rdrf_last (t := 3) (rdr_int (by kernel_rfl) (by kernel_rfl))))) (fun x : S_api_Uroute => (x.RD, x.Prefix, x.Label)) (fun y => ⟨⟨y.1, y.2.1, y.2.2⟩, rfl, fun h => ⟨h.1, h.2.1, h.2.2⟩⟩)
theorem rdrS_api_Segment : Rdr Try.prog 56 rS_api_Segment okS_api_Segment :=
  rdr_struct (by kernel_rfl) (by kernel_rfl) (rdrf_cons (t := 4) (rdr_bool (by kernel_rfl) (by kernel_rfl)) (rdrf_last (t := 54) (rdr_slice (by kernel_rfl) (by kernel_rfl) (nb := 8) (by kernel_rfl) (rdr_int (by kernel_rfl) (by kernel_rfl)) (by kernel_rfl)))) (fun x : S_api_Segment => (x.Set, x.AS)) (fun y => ⟨⟨y.1, y.2⟩, rfl, fun h => ⟨h.1, h.2⟩⟩)
theorem rdrS_api_Tunnel : Rdr Try.prog 68 rS_api_Tunnel okS_api_Tunnel :=
  rdr_struct (by kernel_rfl) (by kernel_rfl) (rdrf_cons (t := 4) (rdr_bool (by kernel_rfl) (by kernel_rfl)) (rdrf_cons (t := 3) (rdr_int (by kernel_rfl) (by kernel_rfl)) (rdrf_cons (t := 3) (rdr_int (by kernel_rfl) (by kernel_rfl)) (rdrf_cons (t := 30) rdrS_api_Addr (rdrf_last (t := 66) (rdr_slice (by kernel_rfl) (by kernel_rfl) (nb := 1) (by kernel_rfl) (rdr_int (by kernel_rfl) (by kernel_rfl)) (by kernel_rfl))))))) (fun x : S_api_Tunnel => (x.Leaf, x.Kind, x.Label, x.Root, x.Id)) (fun y => ⟨⟨y.1, y.2.1, y.2.2.1, y.2.2.2.1, y.2.2.2.2⟩, rfl, fun h => ⟨h.1, h.2.1, h.2.2.1, h.2.2.2.1, h.2.2.2.2⟩⟩)
theorem rdrS_api_Attrs : Rdr Try.prog 42 rS_api_Attrs okS_api_Attrs :=
  rdr_struct (by kernel_rfl) (by kernel_rfl) (rdrf_cons (t := 3) (rdr_int (by kernel_rfl) (by kernel_rfl)) (rdrf_cons (t := 37) (rdr_slice (by kernel_rfl) (by kernel_rfl) (nb := 32) (by kernel_rfl) rdrS_api_Segment (by kernel_rfl)) (rdrf_cons (t := 3) (rdr_int (by kernel_rfl) (by kernel_rfl)) (rdrf_cons (t := 3) (rdr_int (by kernel_rfl) (by kernel_rfl)) (rdrf_cons (t := 30) rdrS_api_Addr (rdrf_cons (t := 38) (rdr_slice (by kernel_rfl) (by kernel_rfl) (nb := 24) (by kernel_rfl) rdrS_api_Addr (by kernel_rfl)) (rdrf_cons (t := 39) (rdr_slice (by kernel_rfl) (by kernel_rfl) (nb := 8) (by kernel_rfl) (rdr_arr (e := 5) (by kernel_rfl) (by kernel_rfl) (by kernel_rfl) (by kernel_rfl)) (by kernel_rfl)) (rdrf_last (t := 40) (rdr_slice (by kernel_rfl) (by kernel_rfl) (nb := 72) (by kernel_rfl) rdrS_api_Tunnel (by kernel_rfl)))))))))) (fun x : S_api_Attrs => (x.Origin, x.Path, x.Med, x.Pref, x.Originator, x.Clusters, x.Exts, x.Tunnels)) (fun y => ⟨⟨y.1, y.2.1, y.2.2.1, y.2.2.2.1, y.2.2.2.2.1, y.2.2.2.2.2.1, y.2.2.2.2.2.2.1, y.2.2.2.2.2.2.2⟩, rfl, fun h => ⟨h.1, h.2.1, h.2.2.1, h.2.2.2.1, h.2.2.2.2.1, h.2.2.2.2.2.1, h.2.2.2.2.2.2.1, h.2.2.2.2.2.2.2⟩⟩)
theorem rdrS_api_Route : Rdr Try.prog 44 rS_api_Route okS_api_Route :=
  rdr_struct (by kernel_rfl) (by kernel_rfl) (rdrf_cons (t := 3) (rdr_int (by kernel_rfl) (by kernel_rfl)) (rdrf_cons (t := 3) (rdr_int (by kernel_rfl) (by kernel_rfl)) (rdrf_cons (t := 32) rdrS_api_Mroute (rdrf_cons (t := 36) rdrS_api_Uroute (rdrf_cons (t := 30) rdrS_api_Addr (rdrf_last (t := 42) rdrS_api_Attrs)))))) (fun x : S_api_Route => (x.Size, x.Safi, x.M, x.U, x.Next, x.Attrs)) (fun y => ⟨⟨y.1, y.2.1, y.2.2.1, y.2.2.2.1, y.2.2.2.2.1, y.2.2.2.2.2⟩, rfl, fun h => ⟨h.1, h.2.1, h.2.2.1, h.2.2.2.1, h.2.2.2.2.1, h.2.2.2.2.2⟩⟩)
theorem rdrS_api_Choice : Rdr Try.prog 46 rS_api_Choice okS_api_Choice :=
  rdr_struct (by kernel_rfl) (by kernel_rfl) (rdrf_cons (t := 44) rdrS_api_Route (rdrf_cons (t := 3) (rdr_int (by kernel_rfl) (by kernel_rfl)) (rdrf_last (t := 30) rdrS_api_Addr))) (fun x : S_api_Choice => (x.Route, x.Peer, x.Id)) (fun y => ⟨⟨y.1, y.2.1, y.2.2⟩, rfl, fun h => ⟨h.1, h.2.1, h.2.2⟩⟩)
set_option maxRecDepth 100000 in
theorem DecideStays_lifted (os : Os) (started : os.Started) (H : Type) (enc : TypeId × Value → H) :
    ReturnsInHanded {} Try.checked os 4 .any (Rows.decideStaysSpec.pre6 enc Try.prog Try.f4 Rows.decideStaysRow.domain false) (Rows.decideStaysSpec.post enc Try.prog Try.f4 false true false false) := by
  refine lift_true (C := Try.checked) (tb := 4) DecideStays_own started (by kernel_rfl) Try.func4
    (ChangeSpec.witness6 (enc := enc) (C := Try.checked) false ⟨#[], #[.slice none 0 0, .int .i64 0], []⟩ 8 (by kernel_rfl) (by kernel_rfl) (by kernel_rfl) (by kernel_rfl))
    DecideStays_laidOut (by kernel_rfl) (by kernel_rfl) (by kernel_rfl) rfl (fun ds h => ?_) ?_
  · rw [Try.params4] at h
    match ds, h with
    | [_, _], _ => rfl
  · intro W base args ds p hval hA hsz _
    rw [Try.params4] at hval
    have hA' : DataW.TrodAll enc Try.prog W 0 (fun _ => true) true [22, 3] args.toList ds p := hA
    obtain ⟨v0, v1, d0, d1, p0, p1, rfl, rfl, rfl, h0, h1⟩ := trodAll_two hA'
    have hsz' : (DataW.weightsEach Try.prog [22, 3] [d0, d1]).all (· ≤ reachBytes) = true := hsz
    obtain ⟨x0, ao0, cap0, rfl, R0, k0⟩ := arg_slice (by kernel_rfl) (rdr_slice (by kernel_rfl) (by kernel_rfl) (nb := 376) (by kernel_rfl) rdrS_api_Choice (by kernel_rfl)) (hval 0 22 v0 rfl rfl) h0 (weights_at hsz' 0 rfl rfl)
    obtain ⟨x1, rfl, k1⟩ := arg_int (k := .i64) (by kernel_rfl) (hval 1 3 v1 rfl rfl) h1
    obtain ⟨k, hk⟩ := DecideStays.law x0 k0 x1 k1
    exact (vinerylaw16_DecideStays.walk W [] (MS.nil _) _ _ _ R0 _ k true hk).mono fun v W' ⟨hv, hc, _⟩ => ⟨hv, hc⟩
theorem DecideStays_holds : Rows.DecideStaysSaid :=
  OpenClaim.holds_of_wide 4 Try.f4 rfl rfl rfl rfl rfl rfl rfl ⟨rfl, rfl, rfl, rfl, rfl⟩ rfl rfl rfl rfl rfl (by kernel_rfl) Try.func4 (by kernel_rfl)
    (of_decide_eq_true (by kernel_rfl)) (by unfold Func.isWrapper; first | (rw [if_pos (by decide +kernel)]; kernel_rfl) | (rw [if_neg (by decide +kernel)]; exact ⟨rfl, rfl⟩))
    (fun os started H enc _ => DecideStays_lifted os started H enc)
end Go.Proofs.Ytokpdmehkfmmiaa
