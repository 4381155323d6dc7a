/- For every input the law DecidePrefs returns true, and its arguments read behind the call as they read before; no condition. -/
import Derived.Test.YtmgjcnjcnejjkabLawDecidePrefs
import Derived.Test.YtmgjcnjcnejjkabEngR
import Derived.Test.YtmgjcnjcnejjkabRows
set_option linter.unusedVariables false
set_option linter.unusedSimpArgs false
namespace Go.Proofs.Ytmgjcnjcnejjkab
open Go.E Go.ChangeShapes Go.WideShapes Go.ChangeAt Go.RowKit
theorem DecidePrefs_own : ownKnob Try.prog.godebug = none := by kernel_rfl
theorem DecidePrefs_laidOut : laidOutB Try.prog = true := by kernel_rfl
theorem rdrS_api_Addr : Rdr Try.prog 26 rS_api_Addr okS_api_Addr :=
  rdr_struct (by kernel_rfl) (by kernel_rfl) (rdrf_cons (t := 3) (rdr_int (by kernel_rfl) (by kernel_rfl)) (rdrf_last (t := 24) (rdr_arr (e := 5) (by kernel_rfl) (by kernel_rfl) (by kernel_rfl) (by kernel_rfl)))) (fun x : S_api_Addr => (x.Size, x.B)) (fun y => ⟨⟨y.1, y.2⟩, rfl, fun h => ⟨h.1, h.2⟩⟩)
theorem rdrS_api_Mroute : Rdr Try.prog 28 rS_api_Mroute okS_api_Mroute :=
  rdr_struct (by kernel_rfl) (by kernel_rfl) (rdrf_cons (t := 3) (rdr_int (by kernel_rfl) (by kernel_rfl)) (rdrf_cons (t := 23) (rdr_arr (e := 5) (by kernel_rfl) (by kernel_rfl) (by kernel_rfl) (by kernel_rfl)) (rdrf_cons (t := 3) (rdr_int (by kernel_rfl) (by kernel_rfl)) (rdrf_cons (t := 26) rdrS_api_Addr (rdrf_cons (t := 26) rdrS_api_Addr (rdrf_cons (t := 26) rdrS_api_Addr (rdrf_last (t := 9) (rdr_str (by kernel_rfl) (by kernel_rfl))))))))) (fun x : S_api_Mroute => (x.Kind, x.RD, x.AS, x.Source, x.Group, x.From, x.Key)) (fun y => ⟨⟨y.1, y.2.1, y.2.2.1, y.2.2.2.1, y.2.2.2.2.1, y.2.2.2.2.2.1, y.2.2.2.2.2.2⟩, rfl, fun h => ⟨h.1, h.2.1, h.2.2.1, h.2.2.2.1, h.2.2.2.2.1, h.2.2.2.2.2.1, h.2.2.2.2.2.2⟩⟩)
theorem rdrS_api_Prefix : Rdr Try.prog 30 rS_api_Prefix okS_api_Prefix :=
  rdr_struct (by kernel_rfl) (by kernel_rfl) (rdrf_cons (t := 26) rdrS_api_Addr (rdrf_last (t := 3) (rdr_int (by kernel_rfl) (by kernel_rfl)))) (fun x : S_api_Prefix => (x.Addr, x.Bits)) (fun y => ⟨⟨y.1, y.2⟩, rfl, fun h => ⟨h.1, h.2⟩⟩)
theorem rdrS_api_Uroute : Rdr Try.prog 32 rS_api_Uroute okS_api_Uroute :=
  rdr_struct (by kernel_rfl) (by kernel_rfl) (rdrf_cons (t := 23) (rdr_arr (e := 5) (by kernel_rfl) (by kernel_rfl) (by kernel_rfl) (by kernel_rfl)) (rdrf_cons (t := 30) rdrS_api_Prefix (rdrf_last (t := 3) (rdr_int (by kernel_rfl) (by kernel_rfl))))) (fun x : S_api_Uroute => (x.RD, x.Prefix, x.Label)) (fun y => ⟨⟨y.1, y.2.1, y.2.2⟩, rfl, fun h => ⟨h.1, h.2.1, h.2.2⟩⟩)
theorem rdrS_api_Segment : Rdr Try.prog 58 rS_api_Segment okS_api_Segment :=
  rdr_struct (by kernel_rfl) (by kernel_rfl) (rdrf_cons (t := 4) (rdr_bool (by kernel_rfl) (by kernel_rfl)) (rdrf_last (t := 56) (rdr_slice (by kernel_rfl) (by kernel_rfl) (nb := 8) (by kernel_rfl) (rdr_int (by kernel_rfl) (by kernel_rfl)) (by kernel_rfl)))) (fun x : S_api_Segment => (x.Set, x.AS)) (fun y => ⟨⟨y.1, y.2⟩, rfl, fun h => ⟨h.1, h.2⟩⟩)
theorem rdrS_api_Tunnel : Rdr Try.prog 70 rS_api_Tunnel okS_api_Tunnel :=
  rdr_struct (by kernel_rfl) (by kernel_rfl) (rdrf_cons (t := 4) (rdr_bool (by kernel_rfl) (by kernel_rfl)) (rdrf_cons (t := 3) (rdr_int (by kernel_rfl) (by kernel_rfl)) (rdrf_cons (t := 3) (rdr_int (by kernel_rfl) (by kernel_rfl)) (rdrf_cons (t := 26) rdrS_api_Addr (rdrf_last (t := 68) (rdr_slice (by kernel_rfl) (by kernel_rfl) (nb := 1) (by kernel_rfl) (rdr_int (by kernel_rfl) (by kernel_rfl)) (by kernel_rfl))))))) (fun x : S_api_Tunnel => (x.Leaf, x.Kind, x.Label, x.Root, x.Id)) (fun y => ⟨⟨y.1, y.2.1, y.2.2.1, y.2.2.2.1, y.2.2.2.2⟩, rfl, fun h => ⟨h.1, h.2.1, h.2.2.1, h.2.2.2.1, h.2.2.2.2⟩⟩)
theorem rdrS_api_Attrs : Rdr Try.prog 38 rS_api_Attrs okS_api_Attrs :=
  rdr_struct (by kernel_rfl) (by kernel_rfl) (rdrf_cons (t := 3) (rdr_int (by kernel_rfl) (by kernel_rfl)) (rdrf_cons (t := 33) (rdr_slice (by kernel_rfl) (by kernel_rfl) (nb := 32) (by kernel_rfl) rdrS_api_Segment (by kernel_rfl)) (rdrf_cons (t := 3) (rdr_int (by kernel_rfl) (by kernel_rfl)) (rdrf_cons (t := 3) (rdr_int (by kernel_rfl) (by kernel_rfl)) (rdrf_cons (t := 26) rdrS_api_Addr (rdrf_cons (t := 34) (rdr_slice (by kernel_rfl) (by kernel_rfl) (nb := 24) (by kernel_rfl) rdrS_api_Addr (by kernel_rfl)) (rdrf_cons (t := 35) (rdr_slice (by kernel_rfl) (by kernel_rfl) (nb := 8) (by kernel_rfl) (rdr_arr (e := 5) (by kernel_rfl) (by kernel_rfl) (by kernel_rfl) (by kernel_rfl)) (by kernel_rfl)) (rdrf_last (t := 36) (rdr_slice (by kernel_rfl) (by kernel_rfl) (nb := 72) (by kernel_rfl) rdrS_api_Tunnel (by kernel_rfl)))))))))) (fun x : S_api_Attrs => (x.Origin, x.Path, x.Med, x.Pref, x.Originator, x.Clusters, x.Exts, x.Tunnels)) (fun y => ⟨⟨y.1, y.2.1, y.2.2.1, y.2.2.2.1, y.2.2.2.2.1, y.2.2.2.2.2.1, y.2.2.2.2.2.2.1, y.2.2.2.2.2.2.2⟩, rfl, fun h => ⟨h.1, h.2.1, h.2.2.1, h.2.2.2.1, h.2.2.2.2.1, h.2.2.2.2.2.1, h.2.2.2.2.2.2.1, h.2.2.2.2.2.2.2⟩⟩)
theorem rdrS_api_Route : Rdr Try.prog 40 rS_api_Route okS_api_Route :=
  rdr_struct (by kernel_rfl) (by kernel_rfl) (rdrf_cons (t := 3) (rdr_int (by kernel_rfl) (by kernel_rfl)) (rdrf_cons (t := 3) (rdr_int (by kernel_rfl) (by kernel_rfl)) (rdrf_cons (t := 28) rdrS_api_Mroute (rdrf_cons (t := 32) rdrS_api_Uroute (rdrf_cons (t := 26) rdrS_api_Addr (rdrf_last (t := 38) rdrS_api_Attrs)))))) (fun x : S_api_Route => (x.Size, x.Safi, x.M, x.U, x.Next, x.Attrs)) (fun y => ⟨⟨y.1, y.2.1, y.2.2.1, y.2.2.2.1, y.2.2.2.2.1, y.2.2.2.2.2⟩, rfl, fun h => ⟨h.1, h.2.1, h.2.2.1, h.2.2.2.1, h.2.2.2.2.1, h.2.2.2.2.2⟩⟩)
theorem rdrS_api_Choice : Rdr Try.prog 42 rS_api_Choice okS_api_Choice :=
  rdr_struct (by kernel_rfl) (by kernel_rfl) (rdrf_cons (t := 40) rdrS_api_Route (rdrf_cons (t := 3) (rdr_int (by kernel_rfl) (by kernel_rfl)) (rdrf_last (t := 26) rdrS_api_Addr))) (fun x : S_api_Choice => (x.Route, x.Peer, x.Id)) (fun y => ⟨⟨y.1, y.2.1, y.2.2⟩, rfl, fun h => ⟨h.1, h.2.1, h.2.2⟩⟩)
set_option maxRecDepth 100000 in
theorem DecidePrefs_lifted (os : Os) (started : os.Started) (H : Type) (enc : TypeId × Value → H) :
    ReturnsInHanded {} Try.checked os 4 .any (Rows.decidePrefsSpec.pre6 enc Try.prog Try.f4 Rows.decidePrefsRow.domain false) (Rows.decidePrefsSpec.post enc Try.prog Try.f4 false true false false) := by
  refine lift_true (C := Try.checked) (tb := 4) DecidePrefs_own started (by kernel_rfl) Try.func4
    (ChangeSpec.witness6 (enc := enc) (C := Try.checked) false ⟨#[], #[.agg (cS_api_Choice (⟨(⟨(0 : Int), (0 : Int), (⟨(0 : Int), (List.replicate 8 (0 : Int)), (0 : Int), (⟨(0 : Int), (List.replicate 16 (0 : Int))⟩ : S_api_Addr), (⟨(0 : Int), (List.replicate 16 (0 : Int))⟩ : S_api_Addr), (⟨(0 : Int), (List.replicate 16 (0 : Int))⟩ : S_api_Addr), ([] : List UInt8)⟩ : S_api_Mroute), (⟨(List.replicate 8 (0 : Int)), (⟨(⟨(0 : Int), (List.replicate 16 (0 : Int))⟩ : S_api_Addr), (0 : Int)⟩ : S_api_Prefix), (0 : Int)⟩ : S_api_Uroute), (⟨(0 : Int), (List.replicate 16 (0 : Int))⟩ : S_api_Addr), (⟨(0 : Int), ([] : List S_api_Segment), (0 : Int), (0 : Int), (⟨(0 : Int), (List.replicate 16 (0 : Int))⟩ : S_api_Addr), ([] : List S_api_Addr), ([] : List (List Int)), ([] : List S_api_Tunnel)⟩ : S_api_Attrs)⟩ : S_api_Route), (0 : Int), (⟨(0 : Int), (List.replicate 16 (0 : Int))⟩ : S_api_Addr)⟩ : S_api_Choice) none 0 none 0 none 0 none 0).toArray, .agg (cS_api_Choice (⟨(⟨(0 : Int), (0 : Int), (⟨(0 : Int), (List.replicate 8 (0 : Int)), (0 : Int), (⟨(0 : Int), (List.replicate 16 (0 : Int))⟩ : S_api_Addr), (⟨(0 : Int), (List.replicate 16 (0 : Int))⟩ : S_api_Addr), (⟨(0 : Int), (List.replicate 16 (0 : Int))⟩ : S_api_Addr), ([] : List UInt8)⟩ : S_api_Mroute), (⟨(List.replicate 8 (0 : Int)), (⟨(⟨(0 : Int), (List.replicate 16 (0 : Int))⟩ : S_api_Addr), (0 : Int)⟩ : S_api_Prefix), (0 : Int)⟩ : S_api_Uroute), (⟨(0 : Int), (List.replicate 16 (0 : Int))⟩ : S_api_Addr), (⟨(0 : Int), ([] : List S_api_Segment), (0 : Int), (0 : Int), (⟨(0 : Int), (List.replicate 16 (0 : Int))⟩ : S_api_Addr), ([] : List S_api_Addr), ([] : List (List Int)), ([] : List S_api_Tunnel)⟩ : S_api_Attrs)⟩ : S_api_Route), (0 : Int), (⟨(0 : Int), (List.replicate 16 (0 : Int))⟩ : S_api_Addr)⟩ : S_api_Choice) none 0 none 0 none 0 none 0).toArray, .int .i64 0], []⟩ 8 (by kernel_rfl) (by kernel_rfl) (by kernel_rfl) (by kernel_rfl))
    DecidePrefs_laidOut (by kernel_rfl) (by kernel_rfl) (by kernel_rfl) rfl (fun ds h => ?_) ?_
  · rw [Try.params4] at h
    match ds, h with
    | [_, _, _], _ => rfl
  · intro W base args ds p hval hA hsz _
    rw [Try.params4] at hval
    have hA' : DataW.TrodAll enc Try.prog W 0 (fun _ => true) true [42, 42, 3] args.toList ds p := hA
    obtain ⟨v0, v1, v2, d0, d1, d2, p0, p1, p2, rfl, rfl, rfl, h0, h1, h2⟩ := trodAll_three hA'
    have hsz' : (DataW.weightsEach Try.prog [42, 42, 3] [d0, d1, d2]).all (· ≤ reachBytes) = true := hsz
    obtain ⟨x0, cs0, rfl, R0, k0⟩ := arg_struct Try.underlying42 rdrS_api_Choice (hval 0 42 v0 rfl rfl) h0 (weights_at hsz' 0 rfl rfl)
    obtain ⟨aou0_0, capu0_0, aou0_1, capu0_1, aou0_2, capu0_2, aou0_3, capu0_3, rfl, fu0_0, fu0_1, fu0_2, fu0_3⟩ := rS_api_Choice.open R0
    obtain ⟨x1, cs1, rfl, R1, k1⟩ := arg_struct Try.underlying42 rdrS_api_Choice (hval 1 42 v1 rfl rfl) h1 (weights_at hsz' 1 rfl rfl)
    obtain ⟨aou1_0, capu1_0, aou1_1, capu1_1, aou1_2, capu1_2, aou1_3, capu1_3, rfl, fu1_0, fu1_1, fu1_2, fu1_3⟩ := rS_api_Choice.open R1
    obtain ⟨x2, rfl, k2⟩ := arg_int (k := .i64) (by kernel_rfl) (hval 2 3 v2 rfl rfl) h2
    obtain ⟨k, hk⟩ := DecidePrefs.law x0 k0 x1 k1 x2 k2
    exact (vinerylaw16_DecidePrefs.walk W [] (MS.nil _) _ _ _ fu0_0 _ _ fu0_1 _ _ fu0_2 _ _ fu0_3 _ _ _ fu1_0 _ _ fu1_1 _ _ fu1_2 _ _ fu1_3 _ k true hk).mono fun v W' ⟨hv, hc, _⟩ => ⟨hv, hc⟩
theorem DecidePrefs_holds : Rows.DecidePrefsSaid :=
  OpenClaim.holds_of_wide 4 Try.f4 rfl rfl rfl rfl rfl rfl rfl ⟨rfl, rfl, rfl, rfl, rfl⟩ rfl rfl rfl rfl rfl (by kernel_rfl) Try.func4 (by kernel_rfl)
    (of_decide_eq_true (by kernel_rfl)) (by unfold Func.isWrapper; first | (rw [if_pos (by decide +kernel)]; kernel_rfl) | (rw [if_neg (by decide +kernel)]; exact ⟨rfl, rfl⟩))
    (fun os started H enc _ => DecidePrefs_lifted os started H enc)
end Go.Proofs.Ytmgjcnjcnejjkab
