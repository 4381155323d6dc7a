/- What the functions that the law reaches compute, and the walks that show it. -/
import Derived.Test.YtoeenagdbjppgaaDoorEngO
import Derived.Test.YtoeenagdbjppgaaDoorEngX
import Derived.Test.YtoeenagdbjppgaaDoorProg
import Derived.Test.YtoeenagdbjppgaaDoorGenAttrOrdersP1
set_option linter.unusedVariables false
set_option linter.unusedSimpArgs false
namespace Go.E
open Go.RowKit Go.Proofs
def outp (l : List S_api_Raw) (is : Bool) (f kind : Int) (v : List Int) : List S_api_Raw := if is = true then l ++ [⟨f, kind, v⟩] else l
theorem put_walk (w : World) (M : List Nat) (hM : MS M w) (g : Nat) (ao : Option Addr) (cap : Nat) (l : List S_api_Raw) (hB : Box w g [.slice ao l.length cap]) (hO : Own rS_api_Raw 61 w M ao cap l) (hgo : g ∉ blkL ao) (hgM : g ∈ M) (hoM : ∀ y ∈ blkL ao, y ∈ M)
    (is : Bool) (kind : Int) (v : List Int) (ao2 : Option Addr) (cap2 : Nat) (hv : RSl (rInt .u8) 5 w M ao2 cap2 v) (hl : l.length ≤ 1000) (t : Int × Bool) (Ht : attr_flagsOf.f kind = some t) :
    To Tryd.prog 64 [.bool is, .int .i64 kind, .slice ao2 v.length cap2, .pointer (some ⟨g, 0, none⟩)] w fun u w' => ∃ (ao3 : Option Addr) (cap3 : Nat), u = .tuple #[] ∧ Box w' g [.slice ao3 (outp l is t.1 kind v).length cap3] ∧ Own rS_api_Raw 61 w' (blkL ao3 ++ M) ao3 cap3 (outp l is t.1 kind v) ∧ g ∉ blkL ao3 ∧ Chg ([g] ++ blkL ao) w w' ∧ Ok (blkL ao3) (blkL ao) w.heap.size ∧ MS (blkL ao3 ++ M) w' := by
  refine ent Tryd.func64 rfl [(0, .bool is), (1, .int .i64 kind), (2, .slice ao2 v.length cap2), (3, .pointer (some ⟨g, 0, none⟩))] rfl (by rfl) fun a ha => ?_
  refine wp_top_k fun K0 hK0 => ?_
  refine wp_seq_k fun K hK => ?_
  refine wp_region_lit ?_
  refine seg ha 1 [(9, .bool is), (1, .int .i64 kind), (2, .slice ao2 v.length cap2), (3, .pointer (some ⟨g, 0, none⟩))] (by kernel_rfl) fun a ha => ?_
  refine hK _ _ ?_; clear hK K
  refine cnd ha rfl (fun hc => ?_) (fun hc => ?_)
  · refine wp_seq_k fun K hK => ?_
    refine wp_region_lit ?_
    refine seg ha 1 [(11, .int .i64 kind), (1, .int .i64 kind), (2, .slice ao2 v.length cap2), (3, .pointer (some ⟨g, 0, none⟩))] (by kernel_rfl) fun a ha => ?_
    refine cl ha (by rfl) (by kernel_rfl) (by rfl) (by rfl) (by rfl) (attr_flagsOf.walk w [] (MS.nil _) kind _ Ht) ?_
    rintro _ w1 ⟨rfl, c1, _⟩ a ha
    have hB := hB.chg c1 (fun h => nomatch h)
    have hO := hO.chg c1 (Ok.nil _ _) (Ok.refl _ _) (fun _ _ h => nomatch h) hoM
    have hv := hv.chg c1 (Ok.nil _ _) (Ok.refl _ _)
    have hM := hM.chg c1
    refine seg ha 5 [(7, .int .i64 t.1), (1, .int .i64 kind), (2, .slice ao2 v.length cap2), (3, .pointer (some ⟨g, 0, none⟩))] (by kernel_rfl) fun a ha => ?_
    refine hK _ _ ?_; clear hK K
    refine wp_region_lit ?_
    refine ld (v := .slice ao l.length cap) ha rfl (by kernel_rfl) rfl rfl rfl (hB.cell' (o := 0) rfl (by kernel_rfl)) fun a ha => ?_
    refine seg ha 3 [(15, .slice ao l.length cap), (16, .int .i64 t.1), (17, .int .i64 kind), (18, .slice ao2 v.length cap2), (3, .pointer (some ⟨g, 0, none⟩))] (by kernel_rfl) fun a ha => ?_
    refine opk (v := .agg (cS_api_Raw (⟨t.1, kind, v⟩ : S_api_Raw) ao2 cap2).toArray) ha rfl rfl rfl rfl rfl (fun w => by kernel_rfl) fun a ha => ?_
    refine bsl (vals := [.agg (cS_api_Raw (⟨t.1, kind, v⟩ : S_api_Raw) ao2 cap2).toArray]) (T := 61) ha rfl (cS_api_Raw (⟨t.1, kind, v⟩ : S_api_Raw) ao2 cap2) (fun w => by kernel_rfl) rfl rfl rfl fun a w2 gN hN ha => ?_
    have hlt := hO.lt
    have hge := hN.ge
    have hgl := hB.lt
    have hMlt := hM
    have hB := hB.chg hN.chg (fun h => nomatch h)
    have hO := hO.chg hN.chg (Ok.nil _ _) (Ok.refl _ _) (fun _ _ h => nomatch h) hoM
    have hv := hv.chg hN.chg (Ok.nil _ _) (Ok.refl _ _)
    have hM := hM.chg hN.chg
    have hsrc : Src rS_api_Raw 61 w2 M (some ⟨gN, 0, none⟩) 1 [(⟨t.1, kind, v⟩ : S_api_Raw)] := by
      have hv2 := hv.chg (M' := [gN] ++ M) (Chg.refl [] _) (Ok.nil _ _)
      have hr : RL rS_api_Raw w2 M (cS_api_Raw (⟨t.1, kind, v⟩ : S_api_Raw) ao2 cap2) [(⟨t.1, kind, v⟩ : S_api_Raw)] := ⟨_, [], by simp, rS_api_Raw.mk _ hv, rfl⟩
      exact ⟨Nat.le_refl _, by decide, .inr ⟨gN, 0, (cS_api_Raw (⟨t.1, kind, v⟩ : S_api_Raw) ao2 cap2).toArray, (61, (0, 0)), rfl, hN.at_, hr⟩⟩
    refine app (r := rS_api_Raw) (xs := l) (ys := [(⟨t.1, kind, v⟩ : S_api_Raw)]) ha (ElemT.mk' (bytes := 40) (by kernel_rfl)) rfl rfl rfl rfl rfl hO hsrc (by simp; omega) (by decide) fun a w3 ao3 cap3 hO3 c3 hok hlt3 ha => ?_
    have hB := hB.chg c3 hgo
    have hM := hM.chg c3
    have s1 := c1.size
    have s2 := hN.chg.size
    have hgo3 : g ∉ blkL ao3 := fun h => (hok g h).elim hgo (fun h => absurd h (by omega))
    refine st ha rfl rfl rfl (by kernel_rfl) rfl rfl hB (Nat.le_of_ble_eq_true (by kernel_rfl)) fun a w4 ha hb4 c4 _ => ?_
    have hB : Box w4 g [.slice ao3 (l ++ [(⟨t.1, kind, v⟩ : S_api_Raw)]).length cap3] := hb4
    have hO := hO3.chg (M' := blkL ao3 ++ M) c4 (Ok.one (.inl (mr hgM))) (Ok.refl _ _) (fun y hy e => hgo3 (by simp at e; rw [← e]; exact hy)) (fun _ h => ml h)
    refine wpl_end ?_
    refine hK0 _ _ ?_
    have e : outp l is t.1 kind v = l ++ [⟨t.1, kind, v⟩] := if_pos hc
    rw [e]
    refine rt0 ha rfl ⟨ao3, cap3, rfl, hB, hO, hgo3, ?_, ?_, MS.app (fun y hy => Nat.lt_of_lt_of_le (hlt3 y hy) c4.size) (hM.chg c4)⟩
    · exact (((c1.mono (gs' := [g] ++ blkL ao) (Ok.nil _ _)).trans hN.chg (Ok.nil _ _)).trans c3 (fun y hy => .inl (mr hy))).trans c4 (Ok.one (.inl (by simp)))
    · intro y hy
      rcases hok y hy with h | h
      · exact .inl h
      · exact .inr (by omega)
  · refine wp_skip ?_
    refine hK0 _ _ ?_
    have e : outp l is t.1 kind v = l := if_neg (by simp [hc])
    rw [e]
    exact rt0 ha rfl ⟨ao, cap, rfl, hB, hO.chg (Chg.refl [] _) (Ok.nil _ _) (fun y hy => .inl ((List.mem_append.1 hy).elim (hoM y) id)) (fun _ _ h => nomatch h) (fun _ h => ml h), hgo, Chg.refl _ _, Ok.refl _ _, MS.app (fun y hy => hM y (hoM y hy)) hM⟩
abbrev Mx (ao : Option Addr) (g : Nat) (M : List Nat) : List Nat := blkL ao ++ ([g] ++ M)
structure Sls where
  a1 : Option Addr
  c1 : Nat
  a2 : Option Addr
  c2 : Nat
  a3 : Option Addr
  c3 : Nat
  a4 : Option Addr
  c4 : Nat
  a5 : Option Addr
  c5 : Nat
def cAs (x : S_api_Attrs) (e : Sls) : List Value := cS_api_Attrs x e.a1 e.c1 e.a2 e.c2 e.a3 e.c3 e.a4 e.c4
/-- what attr.Write holds: the closure's cell g with its row, the attributes in gA -/
structure Wr (w0 w : World) (M : List Nat) (g gA : Nat) (ao : Option Addr) (cap : Nat) (l : List S_api_Raw) (x : S_api_Attrs) (e : Sls) (d : List Int) : Prop where
  bx : Box w g [.slice ao l.length cap]
  ow : Own rS_api_Raw 61 w (Mx ao g M) ao cap l
  go : g ∉ blkL ao
  ge : w0.heap.size ≤ g
  oe : ∀ y ∈ blkL ao, w0.heap.size ≤ y
  ba : Box w gA (cAs x e)
  ae : w0.heap.size ≤ gA
  ga : gA ≠ g
  gao : gA ∉ blkL ao
  p1 : RSl rS_api_Segment 93 w (Mx ao g M) e.a1 e.c1 x.Path
  p2 : RSl rS_api_Addr 24 w (Mx ao g M) e.a2 e.c2 x.Clusters
  p3 : RSl (rArr .u8 8) 114 w (Mx ao g M) e.a3 e.c3 x.Exts
  p4 : RSl rS_api_Tunnel 27 w (Mx ao g M) e.a4 e.c4 x.Tunnels
  p5 : RSl (rInt .u8) 5 w (Mx ao g M) e.a5 e.c5 d
  ch : Chg [] w0 w
  ms : MS (Mx ao g M) w
theorem Wr.nil {w0 w w' : World} {M : List Nat} {g gA : Nat} {ao : Option Addr} {cap : Nat} {l : List S_api_Raw} {x : S_api_Attrs} {e : Sls} {d : List Int} (h : Wr w0 w M g gA ao cap l x e d) (hc : Chg [] w w') : Wr w0 w' M g gA ao cap l x e d :=
  ⟨h.bx.chg hc (fun h => nomatch h), h.ow.chg hc (Ok.nil _ _) (Ok.refl _ _) (fun _ _ h => nomatch h) (fun _ h => ml h), h.go, h.ge, h.oe, h.ba.chg hc (fun h => nomatch h), h.ae, h.ga, h.gao,
   h.p1.chg hc (Ok.nil _ _) (Ok.refl _ _), h.p2.chg hc (Ok.nil _ _) (Ok.refl _ _), h.p3.chg hc (Ok.nil _ _) (Ok.refl _ _), h.p4.chg hc (Ok.nil _ _) (Ok.refl _ _), h.p5.chg hc (Ok.nil _ _) (Ok.refl _ _), h.ch.trans hc (Ok.nil _ _), h.ms.chg hc⟩
theorem Wr.put {w0 w : World} {M : List Nat} {g gA : Nat} {ao : Option Addr} {cap : Nat} {l : List S_api_Raw} {x : S_api_Attrs} {e : Sls} {d : List Int} (h : Wr w0 w M g gA ao cap l x e d)
    (is : Bool) (kind : Int) (v : List Int) (ao2 : Option Addr) (cap2 : Nat) (hv : RSl (rInt .u8) 5 w (Mx ao g M) ao2 cap2 v) (hl : l.length ≤ 1000) (t : Int × Bool) (Ht : attr_flagsOf.f kind = some t) :
    To Tryd.prog 64 [.bool is, .int .i64 kind, .slice ao2 v.length cap2, .pointer (some ⟨g, 0, none⟩)] w fun u w' => u = .tuple #[] ∧ Chg ([g] ++ blkL ao) w w' ∧ ∃ (ao3 : Option Addr) (cap3 : Nat), Wr w0 w' M g gA ao3 cap3 (outp l is t.1 kind v) x e d := by
  refine (put_walk w (Mx ao g M) h.ms g ao cap l h.bx h.ow h.go (mr (ml (List.mem_singleton.2 rfl))) (fun _ h => ml h) is kind v ao2 cap2 hv hl t Ht).mono ?_
  rintro u w' ⟨ao3, cap3, rfl, hB, hO, hgo3, hc, hok, hms⟩
  have hgs : Ok ([g] ++ blkL ao) (Mx ao g M) w.heap.size := fun y hy => .inl ((List.mem_append.1 hy).elim (fun h => mr (ml h)) (fun h => ml h))
  have hm : Ok (Mx ao3 g M) (Mx ao g M) w.heap.size := Ok.app (fun y hy => (hok y hy).elim (fun h => .inl (ml h)) .inr) (fun y hy => .inl (mr hy))
  have sz := h.ch.size
  refine ⟨rfl, hc, ao3, cap3, hB, ?_, hgo3, h.ge, ?_, ?_, h.ae, h.ga, ?_, h.p1.chg hc hgs hm, h.p2.chg hc hgs hm, h.p3.chg hc hgs hm, h.p4.chg hc hgs hm, h.p5.chg hc hgs hm, ?_, ?_⟩
  · exact hO.chg (Chg.refl [] _) (Ok.nil _ _) (fun y hy => .inl ((List.mem_append.1 hy).elim (fun h => ml h) (fun h => mr (mr h)))) (fun _ _ h => nomatch h) (fun _ h => ml h)
  · intro y hy
    exact (hok y hy).elim (h.oe y) (fun q => Nat.le_trans sz q)
  · exact h.ba.chg hc (fun q => (List.mem_append.1 q).elim (fun q => h.ga (by simpa using q)) h.gao)
  · intro q
    exact (hok gA q).elim h.gao (fun q => absurd h.ba.lt (Nat.not_lt.2 q))
  · exact h.ch.trans hc (fun y hy => .inr ((List.mem_append.1 hy).elim (fun q => by simp at q; rw [q]; exact h.ge) (h.oe y)))
  · intro y hy
    rcases List.mem_append.1 hy with q | q
    · exact hms y (ml q)
    · exact hms y (mr (mr q))
theorem outp_len (l : List S_api_Raw) (is : Bool) (f k : Int) (v : List Int) : (outp l is f k v).length ≤ l.length + 1 := by
  unfold outp; split <;> simp
/-- a row of bytes of its own is data for the closure -/
theorem Wr.data {w0 w w' : World} {M : List Nat} {g gA : Nat} {ao : Option Addr} {cap : Nat} {l : List S_api_Raw} {x : S_api_Attrs} {e : Sls} {d : List Int} (h : Wr w0 w M g gA ao cap l x e d) {ao2 : Option Addr} {cap2 : Nat} {v : List Int} (hO : Own (rInt .u8) 5 w' (blkL ao2 ++ Mx ao g M) ao2 cap2 v) (hn : ∀ y ∈ blkL ao2, w.heap.size ≤ y) : RSl (rInt .u8) 5 w' (Mx ao g M) ao2 cap2 v :=
  hO.toRSl (fun y hy => .inl (mr hy)) (fun y hy hm => absurd (h.ms y hm) (Nat.not_lt.2 (hn y hy)))
theorem Wr.row {w0 w w' : World} {M : List Nat} {g gA : Nat} {ao ao6 ao7 : Option Addr} {cap : Nat} {l : List S_api_Raw} {x : S_api_Attrs} {e : Sls} {d : List Int} (h : Wr w0 w (blkL ao6 ++ M) g gA ao cap l x e d) (hc : Chg (blkL ao6) w w') (hok : Ok (blkL ao7) (blkL ao6) w.heap.size) (hlt : ∀ y ∈ blkL ao7, y < w'.heap.size)
    (h1 : g ∉ blkL ao6) (h2 : gA ∉ blkL ao6) (h3 : ∀ y ∈ blkL ao, y ∉ blkL ao6) (h4 : ∀ y ∈ blkL ao6, w0.heap.size ≤ y) : Wr w0 w' (blkL ao7 ++ M) g gA ao cap l x e d := by
  have hgs : Ok (blkL ao6) (Mx ao g (blkL ao6 ++ M)) w.heap.size := fun y hy => .inl (mr (mr (ml hy)))
  have hm : Ok (Mx ao g (blkL ao7 ++ M)) (Mx ao g (blkL ao6 ++ M)) w.heap.size := Ok.app (fun y hy => .inl (ml hy)) (Ok.app (fun y hy => .inl (mr (ml hy))) (Ok.app (fun y hy => (hok y hy).elim (fun h => .inl (mr (mr (ml h)))) .inr) (fun y hy => .inl (mr (mr (mr hy))))))
  refine ⟨h.bx.chg hc h1, h.ow.chg hc hgs hm h3 (fun _ h => ml h), h.go, h.ge, h.oe, h.ba.chg hc h2, h.ae, h.ga, h.gao, h.p1.chg hc hgs hm, h.p2.chg hc hgs hm, h.p3.chg hc hgs hm, h.p4.chg hc hgs hm, h.p5.chg hc hgs hm, h.ch.trans hc (fun y hy => .inr (h4 y hy)), ?_⟩
  have hms := h.ms.chg hc
  exact MS.app (fun y hy => hms y (ml hy)) (MS.app (fun y hy => hms y (mr (ml hy))) (MS.app hlt (fun y hy => hms y (mr (mr (mr hy))))))
theorem Wr.less {w0 w : World} {M M' : List Nat} {g gA : Nat} {ao : Option Addr} {cap : Nat} {l : List S_api_Raw} {x : S_api_Attrs} {e : Sls} {d : List Int} (h : Wr w0 w M' g gA ao cap l x e d) (hs : ∀ y ∈ M, y ∈ M') : Wr w0 w M g gA ao cap l x e d := by
  have hm : Ok (Mx ao g M) (Mx ao g M') w.heap.size := Ok.app (fun y hy => .inl (ml hy)) (Ok.app (fun y hy => .inl (mr (ml hy))) (fun y hy => .inl (mr (mr (hs y hy)))))
  exact ⟨h.bx, h.ow.chg (Chg.refl [] _) (Ok.nil _ _) hm (fun _ _ h => nomatch h) (fun _ h => ml h), h.go, h.ge, h.oe, h.ba, h.ae, h.ga, h.gao, h.p1.chg (Chg.refl [] _) (Ok.nil _ _) hm, h.p2.chg (Chg.refl [] _) (Ok.nil _ _) hm, h.p3.chg (Chg.refl [] _) (Ok.nil _ _) hm, h.p4.chg (Chg.refl [] _) (Ok.nil _ _) hm, h.p5.chg (Chg.refl [] _) (Ok.nil _ _) hm, h.ch,
    MS.app (fun y hy => h.ms y (ml hy)) (MS.app (fun y hy => h.ms y (mr (ml hy))) (fun y hy => h.ms y (mr (mr (hs y hy)))))⟩
def Write.l0 (k : Nat) (cl : List S_api_Addr) : Nat → List Int → Int → Option (List Int)
  | 0, _, _ => none
  | kk + 1, b, i => if decide (i < (cl.length : Int)) = true then (if 0 ≤ i ∧ i < (cl.length : Int) then (addr_Bytes.f k (rd cl i)).bind fun t => (if (b.length + t.length) * 1 ≤ 140737488355328 then Write.l0 k cl kk (b ++ t) (IntKind.i64.wrap (i + (1 : Int))) else none) else none) else some b
def Write.l1 (k : Nat) (tl : List S_api_Tunnel) : Nat → List S_api_Raw → Int → Option (List S_api_Raw)
  | 0, _, _ => none
  | kk + 1, l, i => if decide (i < (tl.length : Int)) = true then (if 0 ≤ i ∧ i < (tl.length : Int) then (pmsi_Bytes.f k (rd tl i)).bind fun t => (if l.length ≤ 1000 then Write.l1 k tl kk (outp l true 192 22 t.1) (IntKind.i64.wrap (i + (1 : Int))) else none) else none) else some l
def attr_Write.f (k : Nat) (x : S_api_Attrs) : Option (List S_api_Raw × Int) :=
  (attr_Right.f k x).bind fun ok => if (!ok) = true then some ([], 1) else
  (Write.l0 k x.Clusters k [] 0).bind fun d => (attr_pathBytes.f k x.Path).bind fun pb => (attr_num.f k x.Med).bind fun mb => (attr_num.f k x.Pref).bind fun rb => (addr_Bytes.f k x.Originator).bind fun ob => (community_Bytes.f k x.Exts).bind fun eb =>
  (Write.l1 k x.Tunnels k (outp (outp (outp (outp (outp (outp (outp [] true 64 1 [IntKind.u8.wrap x.Origin]) true 64 2 pb) (decide (x.Med ≥ (0 : Int))) 128 4 mb) (decide (x.Pref ≥ (0 : Int))) 64 5 rb) (decide (x.Originator.Size > (0 : Int))) 128 9 ob) (decide ((d.length : Int) > (0 : Int))) 128 10 d) (decide ((x.Exts.length : Int) > (0 : Int))) 192 16 eb) 0).bind fun l => some (l, 0)
theorem attr_Write.walk (w : World) (M : List Nat) (hM : MS M w) (x : S_api_Attrs) (a1 : Option Addr) (c1 : Nat) (f1 : RSl rS_api_Segment 93 w M a1 c1 x.Path) (a2 : Option Addr) (c2 : Nat) (f2 : RSl rS_api_Addr 24 w M a2 c2 x.Clusters) (a3 : Option Addr) (c3 : Nat) (f3 : RSl (rArr .u8 8) 114 w M a3 c3 x.Exts) (a4 : Option Addr) (c4 : Nat) (f4 : RSl rS_api_Tunnel 27 w M a4 c4 x.Tunnels) (k : Nat) (r : List S_api_Raw × Int) (H : attr_Write.f k x = some r) :
    To Tryd.prog 35 [.agg (cS_api_Attrs x a1 c1 a2 c2 a3 c3 a4 c4).toArray] w fun v w' => ∃ (ao : Option Addr) (cap : Nat), v = .tuple #[.slice ao r.1.length cap, .int .i64 r.2] ∧ (RSl rS_api_Raw 61 w' M ao cap r.1) ∧ Chg [] w w' ∧ MS M w' := by
  unfold attr_Write.f at H
  obtain ⟨ok, Hok, H⟩ := bind_some H
  refine ent Tryd.func35 rfl [(0, .agg (cS_api_Attrs x a1 c1 a2 c2 a3 c3 a4 c4).toArray)] rfl (by rfl) fun a ha => ?_
  refine wp_seq_k fun K hK => ?_
  refine wp_region_lit ?_
  refine bx (cs := cS_api_Attrs x a1 c1 a2 c2 a3 c3 a4 c4) ha rfl rfl rfl rfl rfl fun a w1 gA hA ha => ?_
  refine seg ha 2 [(1, .pointer (some ⟨gA, 0, none⟩))] (by kernel_rfl) fun a ha => ?_
  refine hK _ _ ?_; clear hK K
  refine wp_seq_k fun K hK => ?_
  refine wp_seq_k fun K2 hK2 => ?_
  refine wp_region_lit ?_
  have gAM : gA ∉ M := fun h => absurd (hM gA h) (Nat.not_lt.2 hA.ge)
  have q1 := f1.chg hA.chg (Ok.nil _ _) (Ok.refl _ _)
  have q2 := f2.chg hA.chg (Ok.nil _ _) (Ok.refl _ _)
  have q3 := f3.chg hA.chg (Ok.nil _ _) (Ok.refl _ _)
  have q4 := f4.chg hA.chg (Ok.nil _ _) (Ok.refl _ _)
  have hM1 := hM.chg hA.chg
  refine ldA (cs := cS_api_Attrs x a1 c1 a2 c2 a3 c3 a4 c4) ha rfl (by kernel_rfl) rfl rfl rfl (cells_sub (Box.cells hA.box) (all := cS_api_Attrs x a1 c1 a2 c2 a3 c3 a4 c4) [] [] (List.append_nil _).symm) fun a ha => ?_
  refine cl ha (by rfl) (by kernel_rfl) (by rfl) (by rfl) (by rfl) (attr_Right.walk w1 M hM1 x a1 c1 q1 a2 c2 q2 a3 c3 q3 a4 c4 q4 k ok Hok) ?_
  rintro _ w2 ⟨rfl, e2, hM2⟩ a ha
  refine seg ha 1 [(1, .pointer (some ⟨gA, 0, none⟩)), (15, .bool (!ok))] (by kernel_rfl) fun a ha => ?_
  refine hK2 _ _ ?_; clear hK2 K2
  refine cnd ha rfl (fun hc => ?_) (fun hc => ?_)
  · have H := Option.some.inj (ite_t hc H)
    refine wp_seq_k fun K2 hK2 => ?_
    refine wp_region_lit ?_
    refine seg ha 2 [(2, .slice none 0 0), (3, .int .i64 1)] (by kernel_rfl) fun a ha => ?_
    refine hK2 _ _ ?_; clear hK2 K2
    refine wp_ret ?_
    simp only [Exit.then, Exit.inBlock]
    subst H
    exact rt2 ha rfl rfl rfl ⟨none, 0, rfl, RSl.nil (Nat.zero_le _), hA.chg.trans e2 (Ok.nil _ _), hM2⟩
  have H := ite_f hc H
  obtain ⟨d, Hd, H⟩ := bind_some H
  obtain ⟨pb, Hpb, H⟩ := bind_some H
  obtain ⟨mb, Hmb, H⟩ := bind_some H
  obtain ⟨rb, Hrb, H⟩ := bind_some H
  obtain ⟨ob, Hob, H⟩ := bind_some H
  obtain ⟨eb, Heb, H⟩ := bind_some H
  obtain ⟨lF, HlF, H⟩ := bind_some H
  have H := Option.some.inj H
  refine wp_skip ?_
  refine hK _ _ ?_; clear hK K
  refine wp_seq_k fun K hK => ?_
  refine wp_region_lit ?_
  refine al (cs := [.slice none 0 0]) (z := .slice none 0 0) ha (fun w => by kernel_rfl) rfl rfl rfl rfl fun a w3 g hg ha => ?_
  refine seg ha 0 [(1, .pointer (some ⟨gA, 0, none⟩)), (4, .pointer (some ⟨g, 0, none⟩))] (by kernel_rfl) fun a ha => ?_
  refine hK _ _ ?_; clear hK K
  have s1 := hA.size
  have s2 := e2.size
  have s3 := hg.ge
  have s4 := hA.ge
  have hC : Chg [] w w3 := (hA.chg.trans e2 (Ok.nil _ _)).trans hg.chg (Ok.nil _ _)
  have hm3 : Ok (Mx none g M) M w.heap.size := Ok.app (fun _ h => nomatch h) (Ok.app (fun y hy => .inr (by simp at hy; omega)) (Ok.refl _ _))
  have W : Wr w w3 M g gA none 0 [] x ⟨a1, c1, a2, c2, a3, c3, a4, c4, none, 0⟩ [] := ⟨hg.box, Own.nil, (fun h => nomatch h), by omega, (fun _ h => nomatch h), (hA.box.chg e2 (fun h => nomatch h)).chg hg.chg (fun h => nomatch h), s4, by omega, (fun h => nomatch h),
    f1.chg hC (Ok.nil _ _) hm3, f2.chg hC (Ok.nil _ _) hm3, f3.chg hC (Ok.nil _ _) hm3, f4.chg hC (Ok.nil _ _) hm3, RSl.nil (Nat.zero_le _), hC, MS.app (fun _ h => nomatch h) (MS.app hg.ms (hM2.chg hg.chg))⟩
  refine wp_seq_k fun K hK => ?_
  refine wp_region_lit ?_
  refine opk (v := .func (.func 64) #[] #[.pointer (some ⟨g, 0, none⟩)]) ha rfl rfl rfl rfl rfl (fun w => by kernel_rfl) fun a ha => ?_
  refine seg ha 1 [(1, .pointer (some ⟨gA, 0, none⟩)), (4, .pointer (some ⟨g, 0, none⟩)), (5, .func (.func 64) #[] #[.pointer (some ⟨g, 0, none⟩)])] (by kernel_rfl) fun a ha => ?_
  refine hK _ _ ?_; clear hK K
  refine wp_seq_k fun K hK => ?_
  refine wp_region_lit ?_
  refine seg ha 1 [(1, .pointer (some ⟨gA, 0, none⟩)), (4, .pointer (some ⟨g, 0, none⟩)), (5, .func (.func 64) #[] #[.pointer (some ⟨g, 0, none⟩)]), (6, .slice none 0 0)] (by kernel_rfl) fun a ha => ?_
  refine hK _ _ ?_; clear hK K
  refine wp_seq_k fun K hK => ?_
  refine wp_seq_k fun K2 hK2 => ?_
  refine wp_region_lit ?_
  refine seg ha 1 [(1, .pointer (some ⟨gA, 0, none⟩)), (4, .pointer (some ⟨g, 0, none⟩)), (5, .func (.func 64) #[] #[.pointer (some ⟨g, 0, none⟩)]), (6, .slice none 0 0), (17, .pointer (some ⟨gA, 21, none⟩))] (by kernel_rfl) fun a ha => ?_
  refine ld (v := .slice a2 x.Clusters.length c2) ha rfl (by kernel_rfl) rfl rfl rfl (W.ba.cell' (o := 21) rfl (by kernel_rfl)) fun a ha => ?_
  refine seg ha 2 [(1, .pointer (some ⟨gA, 0, none⟩)), (4, .pointer (some ⟨g, 0, none⟩)), (5, .func (.func 64) #[] #[.pointer (some ⟨g, 0, none⟩)]), (6, .slice none 0 0), (18, .slice a2 x.Clusters.length c2), (19, .int .i64 (x.Clusters.length : Int)), (20, .int .i64 (0 : Int))] (by kernel_rfl) fun a ha => ?_
  refine hK2 _ _ ?_; clear hK2 K2
  refine wp_block ?_
  have J : ∀ (a : Act) (w4 : World) (ao6 : Option Addr) (cap6 : Nat), Has a Tryd.f35.ntmps [(1, .pointer (some ⟨gA, 0, none⟩)), (4, .pointer (some ⟨g, 0, none⟩)), (5, .func (.func 64) #[] #[.pointer (some ⟨g, 0, none⟩)]), (6, .slice ao6 d.length cap6)] → Wr w w4 M g gA none 0 [] x ⟨a1, c1, a2, c2, a3, c3, a4, c4, ao6, cap6⟩ d → K a w4 := by
    intro a w4 ao6 cap6 ha W
    refine hK _ _ ?_; clear hK K
    have hl0 : ([] : List S_api_Raw).length ≤ 0 := Nat.le_refl 0
    refine wp_seq_k fun K hK => ?_
    refine wp_region_lit ?_
    refine seg ha 2 [(1, .pointer (some ⟨gA, 0, none⟩)), (4, .pointer (some ⟨g, 0, none⟩)), (5, .func (.func 64) #[] #[.pointer (some ⟨g, 0, none⟩)]), (6, .slice ao6 d.length cap6), (29, .func (.func 64) #[] #[.pointer (some ⟨g, 0, none⟩)]), (30, .pointer (some ⟨gA, 0, none⟩))] (by kernel_rfl) fun a ha => ?_
    refine ld (v := .int .i64 x.Origin) ha rfl (by kernel_rfl) rfl rfl rfl (W.ba.cell' (o := 0) rfl (by kernel_rfl)) fun a ha => ?_
    refine seg ha 1 [(1, .pointer (some ⟨gA, 0, none⟩)), (4, .pointer (some ⟨g, 0, none⟩)), (5, .func (.func 64) #[] #[.pointer (some ⟨g, 0, none⟩)]), (6, .slice ao6 d.length cap6), (29, .func (.func 64) #[] #[.pointer (some ⟨g, 0, none⟩)]), (32, .int .u8 (IntKind.u8.wrap x.Origin))] (by kernel_rfl) fun a ha => ?_
    refine bsl (vals := [.int .u8 (IntKind.u8.wrap x.Origin)]) (T := 5) ha rfl [.int .u8 (IntKind.u8.wrap x.Origin)] (fun w => by kernel_rfl) rfl rfl rfl fun a w5 gN hN ha => ?_
    have hO : Own (rInt .u8) 5 w5 (blkL (some ⟨gN, 0, none⟩) ++ Mx none g M) (some ⟨gN, 0, none⟩) 1 [IntKind.u8.wrap x.Origin] := hN.own (RL_int_mk [IntKind.u8.wrap x.Origin]) (show 1 ≤ maxLen by decide)
    have hv := W.data hO (fun y hy => by simp [blkL] at hy; rw [hy]; exact hN.ge)
    have W := W.nil hN.chg
    refine clc (cs := #[.pointer (some ⟨g, 0, none⟩)]) (vals := [.bool true, .int .i64 1, .slice (some ⟨gN, 0, none⟩) [IntKind.u8.wrap x.Origin].length 1]) ha (by rfl) (by rfl) (by kernel_rfl) (by rfl) (by rfl) (by rfl) (W.put true 1 [IntKind.u8.wrap x.Origin] (some ⟨gN, 0, none⟩) 1 hv (Nat.le_trans hl0 (by decide)) (64, true) rfl) ?_
    rintro _ w9 ⟨rfl, c9, ao9, cap9, W⟩ a ha
    refine wpl_end ?_
    have ha := ha.sel (env' := [(1, .pointer (some ⟨gA, 0, none⟩)), (4, .pointer (some ⟨g, 0, none⟩)), (5, .func (.func 64) #[] #[.pointer (some ⟨g, 0, none⟩)]), (6, .slice ao6 d.length cap6)]) (by kernel_rfl)
    refine hK _ _ ?_; clear hK K
    have hl1 := Nat.le_trans (outp_len _ true 64 1 [IntKind.u8.wrap x.Origin]) (Nat.succ_le_succ hl0)
    refine wp_seq_k fun K hK => ?_
    refine wp_region_lit ?_
    refine seg ha 2 [(1, .pointer (some ⟨gA, 0, none⟩)), (4, .pointer (some ⟨g, 0, none⟩)), (5, .func (.func 64) #[] #[.pointer (some ⟨g, 0, none⟩)]), (6, .slice ao6 d.length cap6), (35, .func (.func 64) #[] #[.pointer (some ⟨g, 0, none⟩)]), (36, .pointer (some ⟨gA, 1, none⟩))] (by kernel_rfl) fun a ha => ?_
    refine ld (v := .slice a1 x.Path.length c1) ha rfl (by kernel_rfl) rfl rfl rfl (W.ba.cell' (o := 1) rfl (by kernel_rfl)) fun a ha => ?_
    refine cl ha (by rfl) (by kernel_rfl) (by rfl) (by rfl) (by rfl) (attr_pathBytes.walk w9 _ W.ms x.Path a1 c1 W.p1 k pb Hpb) ?_
    rintro _ w10 ⟨ao2, cap2, rfl, hO, hn, c10, _⟩ a ha
    have hv := W.data hO hn
    have W := W.nil c10
    refine clc (cs := #[.pointer (some ⟨g, 0, none⟩)]) (vals := [.bool true, .int .i64 2, .slice ao2 pb.length cap2]) ha (by rfl) (by rfl) (by kernel_rfl) (by rfl) (by rfl) (by rfl) (W.put true 2 pb ao2 cap2 hv (Nat.le_trans hl1 (by decide)) (64, true) rfl) ?_
    rintro _ w9 ⟨rfl, c9, ao9, cap9, W⟩ a ha
    refine wpl_end ?_
    have ha := ha.sel (env' := [(1, .pointer (some ⟨gA, 0, none⟩)), (4, .pointer (some ⟨g, 0, none⟩)), (5, .func (.func 64) #[] #[.pointer (some ⟨g, 0, none⟩)]), (6, .slice ao6 d.length cap6)]) (by kernel_rfl)
    refine hK _ _ ?_; clear hK K
    have hl2 := Nat.le_trans (outp_len _ true 64 2 pb) (Nat.succ_le_succ hl1)
    refine wp_seq_k fun K hK => ?_
    have W0 := W
    have hna : gA ∉ [g] ++ blkL ao9 := fun q => (List.mem_append.1 q).elim (fun q => W0.ga (by simpa using q)) W0.gao
    refine drw (fun w' => Chg ([g] ++ blkL ao9) w9 w') (by kernel_rfl) fun w5 hs5 _ => ?_
    have W := W.nil hs5
    have hS : Chg ([g] ++ blkL ao9) w9 w5 := hs5.mono (Ok.nil _ _)
    refine tkpz 0 0 (.func (.func 64) #[] #[.pointer (some ⟨g, 0, none⟩)]) ha (s := hS) (q := fun a ha => ?_)
    refine tkpz 1 0 (.pointer (some ⟨gA, 2, none⟩)) ha (s := hS) (q := fun a ha => ?_)
    refine tkz 2 ha (v := .int .i64 x.Med) (y := fun w' hs => ld_run ha rfl (by kernel_rfl) ((W0.ba.chg hs hna).cell' (o := 2) rfl (by kernel_rfl))) (s := hS) (q := fun a ha => ?_)
    refine tkpz 3 0 (.bool (decide (x.Med ≥ (0 : Int)))) ha (s := hS) (q := fun a ha => ?_)
    refine tkpz 4 0 (.pointer (some ⟨gA, 2, none⟩)) ha (s := hS) (q := fun a ha => ?_)
    refine tkz 5 ha (v := .int .i64 x.Med) (y := fun w' hs => ld_run ha rfl (by kernel_rfl) ((W0.ba.chg hs hna).cell' (o := 2) rfl (by kernel_rfl))) (s := hS) (q := fun a ha => ?_)
    refine ac 6 (by kernel_rfl) rfl fun K2 hK2 => ?_
    refine cl ha (by rfl) (by kernel_rfl) (by rfl) (by rfl) (by rfl) (attr_num.walk w5 _ W.ms x.Med k mb Hmb) ?_
    rintro _ w6 ⟨ao2, cap2, rfl, hO, hn, c6, _⟩ a ha
    have hv := W.data hO hn
    have W := W.nil c6
    have hS := hS.trans c6 (Ok.nil _ _)
    refine ae hK2 hS ?_
    clear hK2 K2
    refine ac 7 (by kernel_rfl) rfl fun K2 hK2 => ?_
    refine clc (cs := #[.pointer (some ⟨g, 0, none⟩)]) (vals := [.bool (decide (x.Med ≥ (0 : Int))), .int .i64 4, .slice ao2 mb.length cap2]) ha (by rfl) (by rfl) (by kernel_rfl) (by rfl) (by rfl) (by rfl) (W.put (decide (x.Med ≥ (0 : Int))) 4 mb ao2 cap2 hv (Nat.le_trans hl2 (by decide)) (128, true) rfl) ?_
    rintro _ w7 ⟨rfl, c7, ao10, cap10, W⟩ a ha
    refine ae hK2 (hS.trans c7 (fun y hy => .inl hy)) ?_
    clear hK2 K2
    refine dn (by kernel_rfl) ?_
    have ha := ha.sel (env' := [(1, .pointer (some ⟨gA, 0, none⟩)), (4, .pointer (some ⟨g, 0, none⟩)), (5, .func (.func 64) #[] #[.pointer (some ⟨g, 0, none⟩)]), (6, .slice ao6 d.length cap6)]) (by kernel_rfl)
    refine hK _ _ ?_; clear hK K W0 hna hS
    have hl3 := Nat.le_trans (outp_len _ (decide (x.Med ≥ (0 : Int))) 128 4 mb) (Nat.succ_le_succ hl2)
    refine wp_seq_k fun K hK => ?_
    have W0 := W
    have hna : gA ∉ [g] ++ blkL ao10 := fun q => (List.mem_append.1 q).elim (fun q => W0.ga (by simpa using q)) W0.gao
    refine drw (fun w' => Chg ([g] ++ blkL ao10) w7 w') (by kernel_rfl) fun w5 hs5 _ => ?_
    have W := W.nil hs5
    have hS : Chg ([g] ++ blkL ao10) w7 w5 := hs5.mono (Ok.nil _ _)
    refine tkpz 0 0 (.func (.func 64) #[] #[.pointer (some ⟨g, 0, none⟩)]) ha (s := hS) (q := fun a ha => ?_)
    refine tkpz 1 0 (.pointer (some ⟨gA, 3, none⟩)) ha (s := hS) (q := fun a ha => ?_)
    refine tkz 2 ha (v := .int .i64 x.Pref) (y := fun w' hs => ld_run ha rfl (by kernel_rfl) ((W0.ba.chg hs hna).cell' (o := 3) rfl (by kernel_rfl))) (s := hS) (q := fun a ha => ?_)
    refine tkpz 3 0 (.bool (decide (x.Pref ≥ (0 : Int)))) ha (s := hS) (q := fun a ha => ?_)
    refine tkpz 4 0 (.pointer (some ⟨gA, 3, none⟩)) ha (s := hS) (q := fun a ha => ?_)
    refine tkz 5 ha (v := .int .i64 x.Pref) (y := fun w' hs => ld_run ha rfl (by kernel_rfl) ((W0.ba.chg hs hna).cell' (o := 3) rfl (by kernel_rfl))) (s := hS) (q := fun a ha => ?_)
    refine ac 6 (by kernel_rfl) rfl fun K2 hK2 => ?_
    refine cl ha (by rfl) (by kernel_rfl) (by rfl) (by rfl) (by rfl) (attr_num.walk w5 _ W.ms x.Pref k rb Hrb) ?_
    rintro _ w6 ⟨ao2, cap2, rfl, hO, hn, c6, _⟩ a ha
    have hv := W.data hO hn
    have W := W.nil c6
    have hS := hS.trans c6 (Ok.nil _ _)
    refine ae hK2 hS ?_
    clear hK2 K2
    refine ac 7 (by kernel_rfl) rfl fun K2 hK2 => ?_
    refine clc (cs := #[.pointer (some ⟨g, 0, none⟩)]) (vals := [.bool (decide (x.Pref ≥ (0 : Int))), .int .i64 5, .slice ao2 rb.length cap2]) ha (by rfl) (by rfl) (by kernel_rfl) (by rfl) (by rfl) (by rfl) (W.put (decide (x.Pref ≥ (0 : Int))) 5 rb ao2 cap2 hv (Nat.le_trans hl3 (by decide)) (64, true) rfl) ?_
    rintro _ w17 ⟨rfl, c7, ao20, cap20, W⟩ a ha
    refine ae hK2 (hS.trans c7 (fun y hy => .inl hy)) ?_
    clear hK2 K2
    refine dn (by kernel_rfl) ?_
    have ha := ha.sel (env' := [(1, .pointer (some ⟨gA, 0, none⟩)), (4, .pointer (some ⟨g, 0, none⟩)), (5, .func (.func 64) #[] #[.pointer (some ⟨g, 0, none⟩)]), (6, .slice ao6 d.length cap6)]) (by kernel_rfl)
    refine hK _ _ ?_; clear hK K W0 hna hS
    have hl4 := Nat.le_trans (outp_len _ (decide (x.Pref ≥ (0 : Int))) 64 5 rb) (Nat.succ_le_succ hl3)
    refine wp_seq_k fun K hK => ?_
    have W0 := W
    have hna : gA ∉ [g] ++ blkL ao20 := fun q => (List.mem_append.1 q).elim (fun q => W0.ga (by simpa using q)) W0.gao
    refine drw (fun w' => Chg ([g] ++ blkL ao20) w17 w') (by kernel_rfl) fun w5 hs5 _ => ?_
    have W := W.nil hs5
    have hS : Chg ([g] ++ blkL ao20) w17 w5 := hs5.mono (Ok.nil _ _)
    refine tkpz 0 0 (.func (.func 64) #[] #[.pointer (some ⟨g, 0, none⟩)]) ha (s := hS) (q := fun a ha => ?_)
    refine tkpz 1 0 (.pointer (some ⟨gA, 4, none⟩)) ha (s := hS) (q := fun a ha => ?_)
    refine tkpz 2 0 (.pointer (some ⟨gA, 4, none⟩)) ha (s := hS) (q := fun a ha => ?_)
    refine tkz 3 ha (v := .int .i64 x.Originator.Size) (y := fun w' hs => ld_run ha rfl (by kernel_rfl) ((W0.ba.chg hs hna).cell' (o := 4) rfl (by kernel_rfl))) (s := hS) (q := fun a ha => ?_)
    refine tkpz 4 0 (.bool (decide (x.Originator.Size > (0 : Int)))) ha (s := hS) (q := fun a ha => ?_)
    refine tkpz 5 0 (.pointer (some ⟨gA, 4, none⟩)) ha (s := hS) (q := fun a ha => ?_)
    refine tkz 6 ha (v := .agg (cS_api_Addr x.Originator).toArray) (y := fun w' hs => ldA_run (cs := cS_api_Addr x.Originator) ha rfl (by kernel_rfl) (cells_sub (Box.cells (W0.ba.chg hs hna)) (all := cAs x ⟨a1, c1, a2, c2, a3, c3, a4, c4, ao6, cap6⟩) [.int .i64 x.Origin, .slice a1 x.Path.length c1, .int .i64 x.Med, .int .i64 x.Pref] [.slice a2 x.Clusters.length c2, .slice a3 x.Exts.length c3, .slice a4 x.Tunnels.length c4] (by kernel_rfl))) (s := hS) (q := fun a ha => ?_)
    refine ac 7 (by kernel_rfl) rfl fun K2 hK2 => ?_
    refine cl ha (by rfl) (by kernel_rfl) (by rfl) (by rfl) (by rfl) (addr_Bytes.walk w5 _ W.ms x.Originator k ob Hob) ?_
    rintro _ w6 ⟨ao2, cap2, rfl, hO, hn, c6, _⟩ a ha
    have hv := W.data hO hn
    have W := W.nil c6
    have hS := hS.trans c6 (Ok.nil _ _)
    refine ae hK2 hS ?_
    clear hK2 K2
    refine ac 8 (by kernel_rfl) rfl fun K2 hK2 => ?_
    refine clc (cs := #[.pointer (some ⟨g, 0, none⟩)]) (vals := [.bool (decide (x.Originator.Size > (0 : Int))), .int .i64 9, .slice ao2 ob.length cap2]) ha (by rfl) (by rfl) (by kernel_rfl) (by rfl) (by rfl) (by rfl) (W.put (decide (x.Originator.Size > (0 : Int))) 9 ob ao2 cap2 hv (Nat.le_trans hl4 (by decide)) (128, true) rfl) ?_
    rintro _ w27 ⟨rfl, c7, ao30, cap30, W⟩ a ha
    refine ae hK2 (hS.trans c7 (fun y hy => .inl hy)) ?_
    clear hK2 K2
    refine dn (by kernel_rfl) ?_
    have ha := ha.sel (env' := [(1, .pointer (some ⟨gA, 0, none⟩)), (4, .pointer (some ⟨g, 0, none⟩)), (5, .func (.func 64) #[] #[.pointer (some ⟨g, 0, none⟩)]), (6, .slice ao6 d.length cap6)]) (by kernel_rfl)
    refine hK _ _ ?_; clear hK K W0 hna hS
    have hl5 := Nat.le_trans (outp_len _ (decide (x.Originator.Size > (0 : Int))) 128 9 ob) (Nat.succ_le_succ hl4)
    refine wp_seq_k fun K hK => ?_
    refine wp_region_lit ?_
    refine seg ha 5 [(1, .pointer (some ⟨gA, 0, none⟩)), (4, .pointer (some ⟨g, 0, none⟩)), (5, .func (.func 64) #[] #[.pointer (some ⟨g, 0, none⟩)]), (6, .slice ao6 d.length cap6), (65, .func (.func 64) #[] #[.pointer (some ⟨g, 0, none⟩)]), (68, .bool (decide ((d.length : Int) > (0 : Int)))), (69, .slice ao6 d.length cap6)] (by kernel_rfl) fun a ha => ?_
    refine clc (cs := #[.pointer (some ⟨g, 0, none⟩)]) (vals := [.bool (decide ((d.length : Int) > (0 : Int))), .int .i64 10, .slice ao6 d.length cap6]) ha (by rfl) (by rfl) (by kernel_rfl) (by rfl) (by rfl) (by rfl) (W.put (decide ((d.length : Int) > (0 : Int))) 10 d ao6 cap6 W.p5 (Nat.le_trans hl5 (by decide)) (128, true) rfl) ?_
    rintro _ w37 ⟨rfl, c9, ao40, cap40, W⟩ a ha
    refine wpl_end ?_
    have ha := ha.sel (env' := [(1, .pointer (some ⟨gA, 0, none⟩)), (4, .pointer (some ⟨g, 0, none⟩)), (5, .func (.func 64) #[] #[.pointer (some ⟨g, 0, none⟩)]), (6, .slice ao6 d.length cap6)]) (by kernel_rfl)
    refine hK _ _ ?_; clear hK K
    have hl6 := Nat.le_trans (outp_len _ (decide ((d.length : Int) > (0 : Int))) 128 10 d) (Nat.succ_le_succ hl5)
    refine wp_seq_k fun K hK => ?_
    have W0 := W
    have hna : gA ∉ [g] ++ blkL ao40 := fun q => (List.mem_append.1 q).elim (fun q => W0.ga (by simpa using q)) W0.gao
    refine drw (fun w' => Chg ([g] ++ blkL ao40) w37 w') (by kernel_rfl) fun w5 hs5 _ => ?_
    have W := W.nil hs5
    have hS : Chg ([g] ++ blkL ao40) w37 w5 := hs5.mono (Ok.nil _ _)
    refine tkpz 0 0 (.func (.func 64) #[] #[.pointer (some ⟨g, 0, none⟩)]) ha (s := hS) (q := fun a ha => ?_)
    refine tkpz 1 0 (.pointer (some ⟨gA, 22, none⟩)) ha (s := hS) (q := fun a ha => ?_)
    refine tkz 2 ha (v := .slice a3 x.Exts.length c3) (y := fun w' hs => ld_run ha rfl (by kernel_rfl) ((W0.ba.chg hs hna).cell' (o := 22) rfl (by kernel_rfl))) (s := hS) (q := fun a ha => ?_)
    refine tkpz 3 0 (.int .i64 (x.Exts.length : Int)) ha (s := hS) (q := fun a ha => ?_)
    refine tkpz 4 0 (.bool (decide ((x.Exts.length : Int) > (0 : Int)))) ha (s := hS) (q := fun a ha => ?_)
    refine tkpz 5 0 (.pointer (some ⟨gA, 22, none⟩)) ha (s := hS) (q := fun a ha => ?_)
    refine tkz 6 ha (v := .slice a3 x.Exts.length c3) (y := fun w' hs => ld_run ha rfl (by kernel_rfl) ((W0.ba.chg hs hna).cell' (o := 22) rfl (by kernel_rfl))) (s := hS) (q := fun a ha => ?_)
    refine ac 7 (by kernel_rfl) rfl fun K2 hK2 => ?_
    refine cl ha (by rfl) (by kernel_rfl) (by rfl) (by rfl) (by rfl) (community_Bytes.walk w5 _ W.ms x.Exts a3 c3 W.p3 k eb Heb) ?_
    rintro _ w6 ⟨ao2, cap2, rfl, hO, hn, c6, _⟩ a ha
    have hv := W.data hO hn
    have W := W.nil c6
    have hS := hS.trans c6 (Ok.nil _ _)
    refine ae hK2 hS ?_
    clear hK2 K2
    refine ac 8 (by kernel_rfl) rfl fun K2 hK2 => ?_
    refine clc (cs := #[.pointer (some ⟨g, 0, none⟩)]) (vals := [.bool (decide ((x.Exts.length : Int) > (0 : Int))), .int .i64 16, .slice ao2 eb.length cap2]) ha (by rfl) (by rfl) (by kernel_rfl) (by rfl) (by rfl) (by rfl) (W.put (decide ((x.Exts.length : Int) > (0 : Int))) 16 eb ao2 cap2 hv (Nat.le_trans hl6 (by decide)) (192, true) rfl) ?_
    rintro _ w47 ⟨rfl, c7, ao50, cap50, W⟩ a ha
    refine ae hK2 (hS.trans c7 (fun y hy => .inl hy)) ?_
    clear hK2 K2
    refine dn (by kernel_rfl) ?_
    have ha := ha.sel (env' := [(1, .pointer (some ⟨gA, 0, none⟩)), (4, .pointer (some ⟨g, 0, none⟩)), (5, .func (.func 64) #[] #[.pointer (some ⟨g, 0, none⟩)]), (6, .slice ao6 d.length cap6)]) (by kernel_rfl)
    refine hK _ _ ?_; clear hK K W0 hna hS
    have hl7 := Nat.le_trans (outp_len _ (decide ((x.Exts.length : Int) > (0 : Int))) 192 16 eb) (Nat.succ_le_succ hl6)
    refine wp_seq_k fun K hK => ?_
    refine wp_seq_k fun K2 hK2 => ?_
    refine wp_region_lit ?_
    refine seg ha 1 [(1, .pointer (some ⟨gA, 0, none⟩)), (4, .pointer (some ⟨g, 0, none⟩)), (5, .func (.func 64) #[] #[.pointer (some ⟨g, 0, none⟩)]), (80, .pointer (some ⟨gA, 23, none⟩))] (by kernel_rfl) fun a ha => ?_
    refine ld (v := .slice a4 x.Tunnels.length c4) ha rfl (by kernel_rfl) rfl rfl rfl (W.ba.cell' (o := 23) rfl (by kernel_rfl)) fun a ha => ?_
    refine seg ha 2 [(1, .pointer (some ⟨gA, 0, none⟩)), (4, .pointer (some ⟨g, 0, none⟩)), (5, .func (.func 64) #[] #[.pointer (some ⟨g, 0, none⟩)]), (81, .slice a4 x.Tunnels.length c4), (82, .int .i64 (x.Tunnels.length : Int)), (83, .int .i64 (0 : Int))] (by kernel_rfl) fun a ha => ?_
    refine hK2 _ _ ?_; clear hK2 K2
    refine wp_block ?_
    have J2 : ∀ (a : Act) (w8 : World) (ao : Option Addr) (cap : Nat), Has a Tryd.f35.ntmps [(1, .pointer (some ⟨gA, 0, none⟩)), (4, .pointer (some ⟨g, 0, none⟩)), (5, .func (.func 64) #[] #[.pointer (some ⟨g, 0, none⟩)])] → Wr w w8 M g gA ao cap lF x ⟨a1, c1, a2, c2, a3, c3, a4, c4, ao6, cap6⟩ d → K a w8 := by
      intro a w8 ao cap ha W
      refine hK _ _ ?_; clear hK K
      refine wp_seq_k fun K hK => ?_
      refine wp_region_lit ?_
      refine ld (v := .slice ao lF.length cap) ha rfl (by kernel_rfl) rfl rfl rfl (W.bx.cell' (o := 0) rfl (by kernel_rfl)) fun a ha => ?_
      refine seg ha 2 [(2, .slice ao lF.length cap), (3, .int .i64 0)] (by kernel_rfl) fun a ha => ?_
      refine hK _ _ ?_; clear hK K
      refine wp_ret ?_
      subst H
      exact rt2 ha rfl rfl rfl ⟨ao, cap, rfl, W.ow.toRSl (M' := M) (fun y hy => .inl (mr (mr hy))) (fun y hy hm => absurd (hM y hm) (Nat.not_lt.2 (W.oe y hy))), W.ch, fun y hy => W.ms y (mr (mr hy))⟩
    refine wp_loop_ghost (fun kk a w8 => ∃ (l : List S_api_Raw) (i : Int) (ao : Option Addr) (cap : Nat), Write.l1 k x.Tunnels kk l i = some lF ∧ Has a Tryd.f35.ntmps [(1, .pointer (some ⟨gA, 0, none⟩)), (4, .pointer (some ⟨g, 0, none⟩)), (5, .func (.func 64) #[] #[.pointer (some ⟨g, 0, none⟩)]), (81, .slice a4 x.Tunnels.length c4), (82, .int .i64 (x.Tunnels.length : Int)), (83, .int .i64 i)] ∧ Wr w w8 M g gA ao cap l x ⟨a1, c1, a2, c2, a3, c3, a4, c4, ao6, cap6⟩ d) k ?_ ?_
    · exact ⟨_, 0, _, _, HlF, ha.sel (by kernel_rfl), W⟩
    · rintro kk a w8 ⟨l, i, ao, cap, Hn, ha, W⟩
      obtain _ | kk := kk
      · exact nomatch (show none = some _ from Hn)
      rw [Write.l1] at Hn
      refine wp_seq_k fun K2 hK2 => ?_
      refine wp_region_lit ?_
      refine seg ha 1 [(1, .pointer (some ⟨gA, 0, none⟩)), (4, .pointer (some ⟨g, 0, none⟩)), (5, .func (.func 64) #[] #[.pointer (some ⟨g, 0, none⟩)]), (81, .slice a4 x.Tunnels.length c4), (82, .int .i64 (x.Tunnels.length : Int)), (83, .int .i64 i), (84, .bool (decide (i < (x.Tunnels.length : Int))))] (by kernel_rfl) fun a ha => ?_
      refine hK2 _ _ ?_; clear hK2 K2
      refine wp_seq_k fun K2 hK2 => ?_
      refine cnd ha rfl (fun hc => ?_) (fun hc => ?_)
      · have Hn := ite_t hc Hn
        obtain ⟨⟨hx, hx'⟩, Hn⟩ := ite_some Hn
        obtain ⟨t, Ht, Hn⟩ := bind_some Hn
        obtain ⟨hb, Hn⟩ := ite_some Hn
        refine wp_skip ?_
        refine hK2 _ _ ?_; clear hK2 K2
        refine wp_seq_k fun K2 hK2 => ?_
        refine wp_block ?_
        refine wp_seq_k fun K3 hK3 => ?_
        refine wp_region_lit ?_
        refine ix (r := rS_api_Tunnel) ha (by kernel_rfl) (by kernel_rfl) rfl rfl rfl rfl rfl W.p4 hx hx' fun a ge oe cs hn hR hE ha => ?_
        rw [rd_get] at hR
        obtain ⟨aoI, capI, rfl, fI⟩ := rS_api_Tunnel.open hR
        refine ldA (cs := cS_api_Tunnel (rd x.Tunnels i) aoI capI) ha rfl (by kernel_rfl) rfl rfl rfl (cells_sub hE (all := cS_api_Tunnel (rd x.Tunnels i) aoI capI) [] [] (List.append_nil _).symm) fun a ha => ?_
        refine al (cs := cS_api_Tunnel (⟨false, (0 : Int), (0 : Int), ⟨(0 : Int), List.replicate 16 (0 : Int)⟩, ([] : List Int)⟩ : S_api_Tunnel) none 0) (z := .agg (cS_api_Tunnel (⟨false, (0 : Int), (0 : Int), ⟨(0 : Int), List.replicate 16 (0 : Int)⟩, ([] : List Int)⟩ : S_api_Tunnel) none 0).toArray) ha (fun w => by kernel_rfl) rfl rfl rfl rfl fun a w5 g8 hN ha => ?_
        refine stA (l := cS_api_Tunnel (rd x.Tunnels i) aoI capI) ha rfl rfl rfl (by kernel_rfl) rfl rfl hN.box rfl fun a w6 ha hb2 hc6 _ => ?_
        have hB8 : Box w6 g8 (cS_api_Tunnel (rd x.Tunnels i) aoI capI) := hb2.cast (by kernel_rfl)
        have q1 : Chg [] w8 w6 := hN.chg.trans hc6 (Ok.one (.inr hN.ge))
        have fI := fI.chg q1 (Ok.nil _ _) (Ok.refl _ _)
        have W := W.nil q1
        refine wpl_end ?_
        have ha := ha.sel (env' := [(1, .pointer (some ⟨gA, 0, none⟩)), (4, .pointer (some ⟨g, 0, none⟩)), (5, .func (.func 64) #[] #[.pointer (some ⟨g, 0, none⟩)]), (10, .pointer (some ⟨g8, 0, none⟩)), (81, .slice a4 x.Tunnels.length c4), (82, .int .i64 (x.Tunnels.length : Int)), (83, .int .i64 i)]) (by kernel_rfl)
        refine hK3 _ _ ?_; clear hK3 K3
        refine wp_seq_k fun K3 hK3 => ?_
        refine wp_region_lit ?_
        refine ldA (cs := cS_api_Tunnel (rd x.Tunnels i) aoI capI) ha rfl (by kernel_rfl) rfl rfl rfl (cells_sub (Box.cells hB8) (all := cS_api_Tunnel (rd x.Tunnels i) aoI capI) [] [] (List.append_nil _).symm) fun a ha => ?_
        refine cl ha (by rfl) (by kernel_rfl) (by rfl) (by rfl) (by rfl) (pmsi_Bytes.walk w6 _ W.ms (rd x.Tunnels i) aoI capI fI k t Ht) ?_
        rintro _ w7 ⟨ao2, cap2, rfl, hO, hn7, c7, _⟩ a ha
        have hv := W.data hO hn7
        have W := W.nil c7
        refine seg ha 5 [(1, .pointer (some ⟨gA, 0, none⟩)), (4, .pointer (some ⟨g, 0, none⟩)), (5, .func (.func 64) #[] #[.pointer (some ⟨g, 0, none⟩)]), (11, .slice ao2 t.1.length cap2), (81, .slice a4 x.Tunnels.length c4), (82, .int .i64 (x.Tunnels.length : Int)), (83, .int .i64 i)] (by kernel_rfl) fun a ha => ?_
        refine hK3 _ _ ?_; clear hK3 K3
        refine wp_region_lit ?_
        refine seg ha 2 [(1, .pointer (some ⟨gA, 0, none⟩)), (4, .pointer (some ⟨g, 0, none⟩)), (5, .func (.func 64) #[] #[.pointer (some ⟨g, 0, none⟩)]), (92, .func (.func 64) #[] #[.pointer (some ⟨g, 0, none⟩)]), (93, .slice ao2 t.1.length cap2), (81, .slice a4 x.Tunnels.length c4), (82, .int .i64 (x.Tunnels.length : Int)), (83, .int .i64 i)] (by kernel_rfl) fun a ha => ?_
        refine clc (cs := #[.pointer (some ⟨g, 0, none⟩)]) (vals := [.bool true, .int .i64 22, .slice ao2 t.1.length cap2]) ha (by rfl) (by rfl) (by kernel_rfl) (by rfl) (by rfl) (by rfl) (W.put true 22 t.1 ao2 cap2 hv hb (192, true) rfl) ?_
        rintro _ w9 ⟨rfl, c9, ao9, cap9, W⟩ a ha
        refine wpl_end ?_
        have ha := ha.sel (env' := [(1, .pointer (some ⟨gA, 0, none⟩)), (4, .pointer (some ⟨g, 0, none⟩)), (5, .func (.func 64) #[] #[.pointer (some ⟨g, 0, none⟩)]), (81, .slice a4 x.Tunnels.length c4), (82, .int .i64 (x.Tunnels.length : Int)), (83, .int .i64 i)]) (by kernel_rfl)
        refine hK2 _ _ ?_; clear hK2 K2
        refine wp_region_lit ?_
        refine seg ha 2 [(1, .pointer (some ⟨gA, 0, none⟩)), (4, .pointer (some ⟨g, 0, none⟩)), (5, .func (.func 64) #[] #[.pointer (some ⟨g, 0, none⟩)]), (81, .slice a4 x.Tunnels.length c4), (82, .int .i64 (x.Tunnels.length : Int)), (83, .int .i64 (IntKind.i64.wrap (i + (1 : Int))))] (by kernel_rfl) fun a ha => ?_
        exact ⟨kk, Nat.lt_succ_self _, ⟨_, _, ao9, cap9, Hn, ha.sel (by kernel_rfl), W⟩⟩
      · have Hn := ite_f hc Hn
        refine wp_exit ?_
        simp only [Exit.then, Exit.inBlock, ↓reduceIte, Nat.reduceEqDiff]
        obtain rfl := Option.some.inj Hn
        exact J2 _ _ ao cap (ha.sel (by kernel_rfl)) W
  refine wp_loop_ghost (fun kk a w4 => ∃ (b : List Int) (i : Int) (ao6 : Option Addr) (cap6 : Nat), Write.l0 k x.Clusters kk b i = some d ∧ Has a Tryd.f35.ntmps [(1, .pointer (some ⟨gA, 0, none⟩)), (4, .pointer (some ⟨g, 0, none⟩)), (5, .func (.func 64) #[] #[.pointer (some ⟨g, 0, none⟩)]), (6, .slice ao6 b.length cap6), (18, .slice a2 x.Clusters.length c2), (19, .int .i64 (x.Clusters.length : Int)), (20, .int .i64 i)] ∧ Wr w w4 (blkL ao6 ++ M) g gA none 0 [] x ⟨a1, c1, a2, c2, a3, c3, a4, c4, none, 0⟩ [] ∧ Own (rInt .u8) 5 w4 (Mx none g (blkL ao6 ++ M)) ao6 cap6 b ∧ (∀ y ∈ blkL ao6, w.heap.size ≤ y) ∧ g ∉ blkL ao6 ∧ gA ∉ blkL ao6) k ?_ ?_
  · exact ⟨[], 0, none, 0, Hd, ha.sel (by kernel_rfl), W, Own.nil, (fun _ h => nomatch h), (fun h => nomatch h), (fun h => nomatch h)⟩
  · rintro kk a w4 ⟨b, i, ao6, cap6, Hn, ha, W, hO, he, hg6, hA6⟩
    obtain _ | kk := kk
    · exact nomatch (show none = some _ from Hn)
    rw [Write.l0] at Hn
    refine wp_seq_k fun K2 hK2 => ?_
    refine wp_region_lit ?_
    refine seg ha 1 [(1, .pointer (some ⟨gA, 0, none⟩)), (4, .pointer (some ⟨g, 0, none⟩)), (5, .func (.func 64) #[] #[.pointer (some ⟨g, 0, none⟩)]), (6, .slice ao6 b.length cap6), (18, .slice a2 x.Clusters.length c2), (19, .int .i64 (x.Clusters.length : Int)), (20, .int .i64 i), (21, .bool (decide (i < (x.Clusters.length : Int))))] (by kernel_rfl) fun a ha => ?_
    refine hK2 _ _ ?_; clear hK2 K2
    refine wp_seq_k fun K2 hK2 => ?_
    refine cnd ha rfl (fun hc => ?_) (fun hc => ?_)
    · have Hn := ite_t hc Hn
      obtain ⟨⟨hx, hx'⟩, Hn⟩ := ite_some Hn
      obtain ⟨t, Ht, Hn⟩ := bind_some Hn
      obtain ⟨hb, Hn⟩ := ite_some Hn
      refine wp_skip ?_
      refine hK2 _ _ ?_; clear hK2 K2
      refine wp_seq_k fun K2 hK2 => ?_
      refine wp_block ?_
      refine wp_seq_k fun K3 hK3 => ?_
      refine wp_region_lit ?_
      refine ix (r := rS_api_Addr) ha (by kernel_rfl) (by kernel_rfl) rfl rfl rfl rfl rfl W.p2 hx hx' fun a ge oe cs hn hR hE ha => ?_
      rw [rd_get] at hR
      obtain rfl := rS_api_Addr.open hR
      refine ldA (cs := cS_api_Addr (rd x.Clusters i)) ha rfl (by kernel_rfl) rfl rfl rfl (cells_sub hE (all := cS_api_Addr (rd x.Clusters i)) [] [] (List.append_nil _).symm) fun a ha => ?_
      refine al (cs := cS_api_Addr (⟨(0 : Int), List.replicate 16 (0 : Int)⟩ : S_api_Addr)) (z := .agg (cS_api_Addr (⟨(0 : Int), List.replicate 16 (0 : Int)⟩ : S_api_Addr)).toArray) ha (fun w => by kernel_rfl) rfl rfl rfl rfl fun a w5 g8 hN ha => ?_
      refine stA (l := cS_api_Addr (rd x.Clusters i)) ha rfl rfl rfl (by kernel_rfl) rfl rfl hN.box rfl fun a w6 ha hb2 hc6 _ => ?_
      have hB8 : Box w6 g8 (cS_api_Addr (rd x.Clusters i)) := hb2.cast (by kernel_rfl)
      have q1 : Chg [] w4 w6 := hN.chg.trans hc6 (Ok.one (.inr hN.ge))
      have W := W.nil q1
      have hO := hO.chg q1 (Ok.nil _ _) (Ok.refl _ _) (fun _ _ h => nomatch h) (fun _ h => mr (mr (ml h)))
      refine wpl_end ?_
      have ha := ha.sel (env' := [(1, .pointer (some ⟨gA, 0, none⟩)), (4, .pointer (some ⟨g, 0, none⟩)), (5, .func (.func 64) #[] #[.pointer (some ⟨g, 0, none⟩)]), (6, .slice ao6 b.length cap6), (8, .pointer (some ⟨g8, 0, none⟩)), (18, .slice a2 x.Clusters.length c2), (19, .int .i64 (x.Clusters.length : Int)), (20, .int .i64 i)]) (by kernel_rfl)
      refine hK3 _ _ ?_; clear hK3 K3
      refine wp_region_lit ?_
      refine seg ha 1 [(1, .pointer (some ⟨gA, 0, none⟩)), (4, .pointer (some ⟨g, 0, none⟩)), (5, .func (.func 64) #[] #[.pointer (some ⟨g, 0, none⟩)]), (24, .slice ao6 b.length cap6), (8, .pointer (some ⟨g8, 0, none⟩)), (18, .slice a2 x.Clusters.length c2), (19, .int .i64 (x.Clusters.length : Int)), (20, .int .i64 i)] (by kernel_rfl) fun a ha => ?_
      refine ldA (cs := cS_api_Addr (rd x.Clusters i)) ha rfl (by kernel_rfl) rfl rfl rfl (cells_sub (Box.cells hB8) (all := cS_api_Addr (rd x.Clusters i)) [] [] (List.append_nil _).symm) fun a ha => ?_
      refine cl ha (by rfl) (by kernel_rfl) (by rfl) (by rfl) (by rfl) (addr_Bytes.walk w6 _ W.ms (rd x.Clusters i) k t Ht) ?_
      rintro _ w7 ⟨ao7, cap7, rfl, hO7, hn7, c7, _⟩ a ha
      have hv := W.data hO7 hn7
      have W := W.nil c7
      have hO := hO.chg c7 (Ok.nil _ _) (Ok.refl _ _) (fun _ _ h => nomatch h) (fun _ h => mr (mr (ml h)))
      refine app (r := rInt .u8) (xs := b) (ys := t) ha (ElemT.mk' (bytes := 1) (by kernel_rfl)) rfl rfl rfl rfl rfl hO hv.src hb (by decide) fun a w8 ao8 cap8 hO8 c8 hok hlt ha => ?_
      have sz := W.ch.size
      have gl := W.bx.lt
      have gAl := W.ba.lt
      have W8 := W.row c8 hok hlt hg6 hA6 (fun _ h => nomatch h) he
      have hO8 := hO8.chg (M' := Mx none g (blkL ao8 ++ M)) (Chg.refl [] _) (Ok.nil _ _) (Ok.app (fun _ h => nomatch h) (Ok.app (fun y hy => .inl (mr (mr (ml hy)))) (Ok.app (fun y hy => .inl (ml hy)) (fun y hy => .inl (mr (mr (mr (mr hy)))))))) (fun _ _ h => nomatch h) (fun _ h => mr (mr (ml h)))
      refine seg ha 1 [(1, .pointer (some ⟨gA, 0, none⟩)), (4, .pointer (some ⟨g, 0, none⟩)), (5, .func (.func 64) #[] #[.pointer (some ⟨g, 0, none⟩)]), (6, .slice ao8 (b ++ t).length cap8), (18, .slice a2 x.Clusters.length c2), (19, .int .i64 (x.Clusters.length : Int)), (20, .int .i64 i)] (by kernel_rfl) fun a ha => ?_
      refine hK2 _ _ ?_; clear hK2 K2
      refine wp_region_lit ?_
      refine seg ha 2 [(1, .pointer (some ⟨gA, 0, none⟩)), (4, .pointer (some ⟨g, 0, none⟩)), (5, .func (.func 64) #[] #[.pointer (some ⟨g, 0, none⟩)]), (6, .slice ao8 (b ++ t).length cap8), (18, .slice a2 x.Clusters.length c2), (19, .int .i64 (x.Clusters.length : Int)), (20, .int .i64 (IntKind.i64.wrap (i + (1 : Int))))] (by kernel_rfl) fun a ha => ?_
      exact ⟨kk, Nat.lt_succ_self _, ⟨b ++ t, _, ao8, cap8, Hn, ha.sel (by kernel_rfl), W8, hO8, fun y hy => (hok y hy).elim (he y) (fun q => Nat.le_trans sz q), fun h => (hok g h).elim hg6 (fun q => absurd gl (Nat.not_lt.2 q)), fun h => (hok gA h).elim hA6 (fun q => absurd gAl (Nat.not_lt.2 q))⟩⟩
    · have Hn := ite_f hc Hn
      refine wp_exit ?_
      simp only [Exit.then, Exit.inBlock, ↓reduceIte, Nat.reduceEqDiff]
      obtain rfl := Option.some.inj Hn
      have Wl := W.less (M := M) (fun y hy => mr hy)
      have hd := hO.toRSl (M' := Mx none g M) (fun y hy => .inl ((List.mem_append.1 hy).elim (fun h => nomatch h) (fun h => (List.mem_append.1 h).elim (fun h => mr (ml h)) (fun h => mr (mr (mr h)))))) (fun y hy hm => (List.mem_append.1 hm).elim (fun h => nomatch h) (fun h => (List.mem_append.1 h).elim (fun h => hg6 (by simp at h; rw [← h]; exact hy)) (fun h => absurd (hM y h) (Nat.not_lt.2 (he y hy)))))
      exact J _ _ ao6 cap6 (ha.sel (by kernel_rfl)) ⟨Wl.bx, Wl.ow, Wl.go, Wl.ge, Wl.oe, Wl.ba, Wl.ae, Wl.ga, Wl.gao, Wl.p1, Wl.p2, Wl.p3, Wl.p4, hd, Wl.ch, Wl.ms⟩

def vinerylaw09_AttrOrders.l1 (a0 : S_api_Attrs) : Nat → Int → Int → Option (Int)
  | 0, _, _ => none
  | kk + 1, x46, x47 => (if (decide (x47 < (([decide (a0.Med ≥ (0 : Int)), decide (a0.Pref ≥ (0 : Int)), decide (a0.Originator.Size > (0 : Int)), decide ((a0.Clusters.length : Int) > (0 : Int)), decide ((a0.Exts.length : Int) > (0 : Int)), decide ((a0.Tunnels.length : Int) > (0 : Int))] : List Bool).length : Int))) = true then (if 0 ≤ x47 ∧ x47 < (([decide (a0.Med ≥ (0 : Int)), decide (a0.Pref ≥ (0 : Int)), decide (a0.Originator.Size > (0 : Int)), decide ((a0.Clusters.length : Int) > (0 : Int)), decide ((a0.Exts.length : Int) > (0 : Int)), decide ((a0.Tunnels.length : Int) > (0 : Int))] : List Bool).length : Int) then (if (rd ([decide (a0.Med ≥ (0 : Int)), decide (a0.Pref ≥ (0 : Int)), decide (a0.Originator.Size > (0 : Int)), decide ((a0.Clusters.length : Int) > (0 : Int)), decide ((a0.Exts.length : Int) > (0 : Int)), decide ((a0.Tunnels.length : Int) > (0 : Int))] : List Bool) x47) = true then vinerylaw09_AttrOrders.l1 a0 kk (IntKind.i64.wrap (x46 + (1 : Int))) (IntKind.i64.wrap (x47 + (1 : Int))) else vinerylaw09_AttrOrders.l1 a0 kk x46 (IntKind.i64.wrap (x47 + (1 : Int)))) else none) else some (x46 : Int))
def vinerylaw09_AttrOrders.l0 (t20 : List S_api_Raw × Int) : Nat → Int → Int → Option ((Bool) ⊕ (Unit))
  | 0, _, _ => none
  | kk + 1, x35, x36 => (if (decide (x36 < (t20.1.length : Int))) = true then (if 0 ≤ x36 ∧ x36 < (t20.1.length : Int) then (if (decide (((rd t20.1 x36).Kind) ≤ x35)) = true then some (.inl ((false : Bool))) else (if 0 ≤ x36 ∧ x36 < (t20.1.length : Int) then vinerylaw09_AttrOrders.l0 t20 kk ((rd t20.1 x36).Kind) (IntKind.i64.wrap (x36 + (1 : Int))) else none)) else none) else some (.inr (() : Unit)))
def vinerylaw09_AttrOrders.f (k : Nat) (a0 : S_api_Attrs) : Option (Bool) := (vinerylaw09_small.f k ).bind fun t12 => (vinerylaw09_Few.f k a0).bind fun t14 => (if (!t14) = true then some ((t12 : Bool)) else (attr_Write.f k a0).bind fun t20 => (if (t20.2 != (0 : Int)) = true then ((if t12 = true then (if ((t20.1.length : Int) == (0 : Int)) = true then (attr_Right.f k a0).bind fun t29 => some (!t29 : Bool) else some (false : Bool)) else some (false : Bool))).bind fun s26 => some ((s26 : Bool)) else (vinerylaw09_AttrOrders.l0 t20 k (0 : Int) (0 : Int)).bind fun s34 => match s34 with | .inl r => some r | .inr s34' => (vinerylaw09_AttrOrders.l1 a0 k (2 : Int) (0 : Int)).bind fun s45 => ((if t12 = true then (if ((t20.1.length : Int) == s45) = true then (if 0 ≤ (0 : Int) ∧ (0 : Int) < (t20.1.length : Int) then (if (((rd t20.1 (0 : Int)).Kind) == (1 : Int)) = true then (if 0 ≤ (1 : Int) ∧ (1 : Int) < (t20.1.length : Int) then (if (((rd t20.1 (1 : Int)).Kind) == (2 : Int)) = true then (attr_Right.f k a0).bind fun t70 => some (t70 : Bool) else some (false : Bool)) else none) else some (false : Bool)) else none) else some (false : Bool)) else some (false : Bool))).bind fun s49 => some ((s49 : Bool))))
set_option maxRecDepth 100000 in
theorem vinerylaw09_AttrOrders.walk (w : World) (M : List Nat) (hM : MS M w) (a0 : S_api_Attrs) (ao1 : Option Addr) (cap1 : Nat) (f1 : RSl rS_api_Segment 93 w M ao1 cap1 a0.Path) (ao2 : Option Addr) (cap2 : Nat) (f2 : RSl rS_api_Addr 24 w M ao2 cap2 a0.Clusters) (ao3 : Option Addr) (cap3 : Nat) (f3 : RSl (rArr .u8 8) 114 w M ao3 cap3 a0.Exts) (ao4 : Option Addr) (cap4 : Nat) (f4 : RSl rS_api_Tunnel 27 w M ao4 cap4 a0.Tunnels) (k : Nat) (r : Bool) (H : vinerylaw09_AttrOrders.f k a0 = some r) :
    To Tryd.prog 10 [.agg (cS_api_Attrs a0 ao1 cap1 ao2 cap2 ao3 cap3 ao4 cap4).toArray] w fun v w' => v = .bool r ∧ Chg [] w w' ∧ MS (M) w' := by
 unfold vinerylaw09_AttrOrders.f at H
 refine ent Tryd.func10 rfl [(0, .agg (cS_api_Attrs a0 ao1 cap1 ao2 cap2 ao3 cap3 ao4 cap4).toArray)] rfl (by rfl) fun a ha => ?_
 have hC : Chg [] w w := Chg.refl _ _
 refine wp_seq_k fun K5 hK5 => ?_
 refine wp_region_lit ?_
 refine bx (cs := (cS_api_Attrs a0 ao1 cap1 ao2 cap2 ao3 cap3 ao4 cap4)) ha rfl rfl rfl rfl rfl fun a w6 g7 hN8 ha => ?_
 have hn10 := hN8.notin hM
 have o1 : Ok [] (M) w.heap.size := Ok.nil _ _
 have o2 : Ok (M) (M) w.heap.size := (Ok.refl _ _)
 have f1 := f1.chg hN8.chg o1 o2
 have f2 := f2.chg hN8.chg o1 o2
 have f3 := f3.chg hN8.chg o1 o2
 have f4 := f4.chg hN8.chg o1 o2
 have hM : MS (M) w6 := (hM.chg hN8.chg)
 have hC := hC.trans hN8.chg (Ok.nil _ _)
 have hE9 : ∀ j v, (cS_api_Attrs a0 ao1 cap1 ao2 cap2 ao3 cap3 ao4 cap4)[j]? = some v → w6.cell? ⟨g7, 0 + j, none⟩ = some v := Box.cells (New.box hN8)
 refine seg ha 1 [(1, .pointer (some ⟨g7, 0, none⟩))] (by kernel_rfl) fun a ha => ?_
 refine hK5 _ _ ?_; try clear hK5 K5
 refine wp_seq_k fun K11 hK11 => ?_
 refine wp_region_lit ?_
 obtain ⟨t12, H12, H⟩ := bind_some H
 refine cl ha (by rfl) (by kernel_rfl) (by rfl) (by rfl) (by rfl) (vinerylaw09_small.walk w6 _ hM  k _ H12) ?_
 rintro _ w12 ⟨rfl, hc12, hMn⟩ a ha
 have o1 : Ok [] (M) w6.heap.size := Ok.nil _ _
 have o2 : Ok (M) (M) w6.heap.size := (Ok.refl _ _)
 have f1 := f1.chg hc12 o1 o2
 have f2 := f2.chg hc12 o1 o2
 have f3 := f3.chg hc12 o1 o2
 have f4 := f4.chg hc12 o1 o2
 have q_hn10 : g7 ∉ M := fun h => (o2 g7 h).elim hn10 (fun h => absurd (lt_cell (hE9 0 _ rfl)) (Nat.not_lt.2 h))
 have hE9 : ∀ j v, (cS_api_Attrs a0 ao1 cap1 ao2 cap2 ao3 cap3 ao4 cap4)[j]? = some v → w12.cell? ⟨g7, 0 + j, none⟩ = some v := fun j v hv => (cell_keep hc12 o1 hn10 (hE9 j v hv))
 have hn10 := q_hn10
 have hM : MS (M) w12 := (hM.chg hc12)
 have hC := hC.trans hc12 (Ok.nil _ _)
 refine seg ha 1 [(1, .pointer (some ⟨g7, 0, none⟩)), (3, .bool t12)] (by kernel_rfl) fun a ha => ?_
 refine hK11 _ _ ?_; try clear hK11 K11
 refine wp_seq_k fun K13 hK13 => ?_
 refine wp_region_lit ?_
 refine ldA (cs := (cS_api_Attrs a0 ao1 cap1 ao2 cap2 ao3 cap3 ao4 cap4)) ha rfl (by kernel_rfl) rfl rfl rfl (cells_sub hE9 (all := (cS_api_Attrs a0 ao1 cap1 ao2 cap2 ao3 cap3 ao4 cap4)) [] [] (by kernel_rfl)) fun a ha => ?_
 obtain ⟨t14, H14, H⟩ := bind_some H
 refine cl ha (by rfl) (by kernel_rfl) (by rfl) (by rfl) (by rfl) (vinerylaw09_Few.walk w12 _ hM a0 ao1 cap1 f1 ao2 cap2 f2 ao3 cap3 f3 ao4 cap4 f4 k _ H14) ?_
 rintro _ w14 ⟨rfl, hc14, hMn⟩ a ha
 have o1 : Ok [] (M) w12.heap.size := Ok.nil _ _
 have o2 : Ok (M) (M) w12.heap.size := (Ok.refl _ _)
 have f1 := f1.chg hc14 o1 o2
 have f2 := f2.chg hc14 o1 o2
 have f3 := f3.chg hc14 o1 o2
 have f4 := f4.chg hc14 o1 o2
 have q_hn10 : g7 ∉ M := fun h => (o2 g7 h).elim hn10 (fun h => absurd (lt_cell (hE9 0 _ rfl)) (Nat.not_lt.2 h))
 have hE9 : ∀ j v, (cS_api_Attrs a0 ao1 cap1 ao2 cap2 ao3 cap3 ao4 cap4)[j]? = some v → w14.cell? ⟨g7, 0 + j, none⟩ = some v := fun j v hv => (cell_keep hc14 o1 hn10 (hE9 j v hv))
 have hn10 := q_hn10
 have hM : MS (M) w14 := (hM.chg hc14)
 have hC := hC.trans hc14 (Ok.nil _ _)
 refine seg ha 1 [(1, .pointer (some ⟨g7, 0, none⟩)), (3, .bool t12), (4, .bool t14)] (by kernel_rfl) fun a ha => ?_
 refine hK13 _ _ ?_; try clear hK13 K13
 refine wp_seq_k fun K15 hK15 => ?_
 refine wp_seq_k fun K16 hK16 => ?_
 refine wp_region_lit ?_
 refine seg ha 2 [(1, .pointer (some ⟨g7, 0, none⟩)), (3, .bool t12), (16, .bool (!t14))] (by kernel_rfl) fun a ha => ?_
 refine hK16 _ _ ?_; try clear hK16 K16
 refine cnd ha rfl (fun hc17 => ?_) (fun hc17 => ?_)
 ·have H := ite_t hc17 H
  refine wp_seq_k fun K18 hK18 => ?_
  refine wp_region_lit ?_
  refine seg ha 2 [(2, .bool t12)] (by kernel_rfl) fun a ha => ?_
  refine hK18 _ _ ?_; try clear hK18 K18
  refine wp_ret ?_
  try simp only [Exit.then, Exit.inBlock]
  obtain rfl := Option.some.inj H
  refine rt1 ha rfl rfl ?_
  exact ⟨rfl, hC, hM⟩
 ·have H := ite_f hc17 H
  refine wp_skip ?_
  refine hK15 _ _ ?_; try clear hK15 K15
  refine wp_seq_k fun K19 hK19 => ?_
  refine wp_region_lit ?_
  refine ldA (cs := (cS_api_Attrs a0 ao1 cap1 ao2 cap2 ao3 cap3 ao4 cap4)) ha rfl (by kernel_rfl) rfl rfl rfl (cells_sub hE9 (all := (cS_api_Attrs a0 ao1 cap1 ao2 cap2 ao3 cap3 ao4 cap4)) [] [] (by kernel_rfl)) fun a ha => ?_
  obtain ⟨t20, H20, H⟩ := bind_some H
  refine cl ha (by rfl) (by kernel_rfl) (by rfl) (by rfl) (by rfl) (attr_Write.walk w14 _ hM a0 ao1 cap1 f1 ao2 cap2 f2 ao3 cap3 f3 ao4 cap4 f4 k _ H20) ?_
  rintro _ w20 ⟨ao21, cap21, rfl, f21, hc20, hMn⟩ a ha
  have o1 : Ok [] (M) w14.heap.size := Ok.nil _ _
  have o2 : Ok (M) (M) w14.heap.size := (Ok.refl _ _)
  have f1 := f1.chg hc20 o1 o2
  have f2 := f2.chg hc20 o1 o2
  have f3 := f3.chg hc20 o1 o2
  have f4 := f4.chg hc20 o1 o2
  have q_hn10 : g7 ∉ M := fun h => (o2 g7 h).elim hn10 (fun h => absurd (lt_cell (hE9 0 _ rfl)) (Nat.not_lt.2 h))
  have hE9 : ∀ j v, (cS_api_Attrs a0 ao1 cap1 ao2 cap2 ao3 cap3 ao4 cap4)[j]? = some v → w20.cell? ⟨g7, 0 + j, none⟩ = some v := fun j v hv => (cell_keep hc20 o1 hn10 (hE9 j v hv))
  have hn10 := q_hn10
  have hM : MS (M) w20 := (hM.chg hc20)
  have hC := hC.trans hc20 (Ok.nil _ _)
  refine seg ha 5 [(1, .pointer (some ⟨g7, 0, none⟩)), (3, .bool t12), (5, .slice ao21 t20.1.length cap21), (6, .int .i64 t20.2)] (by kernel_rfl) fun a ha => ?_
  refine hK19 _ _ ?_; try clear hK19 K19
  refine wp_seq_k fun K22 hK22 => ?_
  refine wp_seq_k fun K23 hK23 => ?_
  refine wp_region_lit ?_
  refine seg ha 2 [(1, .pointer (some ⟨g7, 0, none⟩)), (3, .bool t12), (5, .slice ao21 t20.1.length cap21), (24, .bool (t20.2 != (0 : Int)))] (by kernel_rfl) fun a ha => ?_
  refine hK23 _ _ ?_; try clear hK23 K23
  refine cnd ha rfl (fun hc24 => ?_) (fun hc24 => ?_)
  ·have H := ite_t hc24 H
   refine wp_seq_k fun K25 hK25 => ?_
   refine wp_region_lit ?_
   obtain ⟨s26, H26, H⟩ := bind_some H
   have J26 : ∀ (a : Act) (w26 : World), Has a Tryd.f10.ntmps [(2, .bool s26)] → (Chg [] w w26) → (MS (M) w26) → K25 a w26 := by
    intro a w26 ha hC hM
    refine hK25 _ _ ?_; try clear hK25 K25
    refine wp_ret ?_
    try simp only [Exit.then, Exit.inBlock]
    obtain rfl := Option.some.inj H
    refine rt1 ha rfl rfl ?_
    exact ⟨rfl, hC, hM⟩
   have H := H26
   refine seg ha 2 [(26, .bool t12), (1, .pointer (some ⟨g7, 0, none⟩)), (5, .slice ao21 t20.1.length cap21)] (by kernel_rfl) fun a ha => ?_
   rcases Bool.eq_false_or_eq_true (t12) with hb27 | hb27
   ·have ha := ha.lit hb27
    have H := ite_t hb27 H
    refine sgh ha 5 [2, 2, 2, 3, 0] [(31, .bool ((t20.1.length : Int) == (0 : Int))), (1, .pointer (some ⟨g7, 0, none⟩))] (by kernel_rfl) fun a ha => ?_
    rcases Bool.eq_false_or_eq_true ((t20.1.length : Int) == (0 : Int)) with hb28 | hb28
    ·have ha := ha.lit hb28
     have H := ite_t hb28 H
     refine ldA (cs := (cS_api_Attrs a0 ao1 cap1 ao2 cap2 ao3 cap3 ao4 cap4)) ha rfl (by kernel_rfl) rfl rfl rfl (cells_sub hE9 (all := (cS_api_Attrs a0 ao1 cap1 ao2 cap2 ao3 cap3 ao4 cap4)) [] [] (by kernel_rfl)) fun a ha => ?_
     obtain ⟨t29, H29, H⟩ := bind_some H
     refine cl ha (by rfl) (by kernel_rfl) (by rfl) (by rfl) (by rfl) (attr_Right.walk w20 _ hM a0 ao1 cap1 f1 ao2 cap2 f2 ao3 cap3 f3 ao4 cap4 f4 k _ H29) ?_
     rintro _ w29 ⟨rfl, hc29, hMn⟩ a ha
     have o1 : Ok [] (M) w20.heap.size := Ok.nil _ _
     have o2 : Ok (M) (M) w20.heap.size := (Ok.refl _ _)
     have f1 := f1.chg hc29 o1 o2
     have f2 := f2.chg hc29 o1 o2
     have f3 := f3.chg hc29 o1 o2
     have f4 := f4.chg hc29 o1 o2
     have hM : MS (M) w29 := (hM.chg hc29)
     have hC := hC.trans hc29 (Ok.nil _ _)
     refine sgh ha 3 [2, 3, 0] [(2, .bool (!t29))] (by kernel_rfl) fun a ha => ?_
     obtain rfl := Option.some.inj H
     exact J26 _ _ (ha.sel (by kernel_rfl)) hC hM
    ·have ha := ha.lit hb28
     have H := ite_f hb28 H
     refine sgh ha 5 [1, 1, 1, 4, 0] [(2, .bool false)] (by kernel_rfl) fun a ha => ?_
     obtain rfl := Option.some.inj H
     exact J26 _ _ (ha.sel (by kernel_rfl)) hC hM
   ·have ha := ha.lit hb27
    have H := ite_f hb27 H
    refine sgh ha 10 [1, 1, 1, 4, 0, 1, 1, 1, 4, 0] [(2, .bool false)] (by kernel_rfl) fun a ha => ?_
    obtain rfl := Option.some.inj H
    exact J26 _ _ (ha.sel (by kernel_rfl)) hC hM
  ·have H := ite_f hc24 H
   refine wp_skip ?_
   refine hK22 _ _ ?_; try clear hK22 K22
   refine wp_seq_k fun K30 hK30 => ?_
   refine wp_region_lit ?_
   refine seg ha 1 [(1, .pointer (some ⟨g7, 0, none⟩)), (3, .bool t12), (5, .slice ao21 t20.1.length cap21), (7, .int .i64 (0 : Int))] (by kernel_rfl) fun a ha => ?_
   refine hK30 _ _ ?_; try clear hK30 K30
   refine wp_seq_k fun K31 hK31 => ?_
   refine wp_region_lit ?_
   refine seg ha 1 [(1, .pointer (some ⟨g7, 0, none⟩)), (3, .bool t12), (5, .slice ao21 t20.1.length cap21), (7, .int .i64 (0 : Int)), (8, .int .i64 (2 : Int))] (by kernel_rfl) fun a ha => ?_
   refine hK31 _ _ ?_; try clear hK31 K31
   refine wp_seq_k fun K32 hK32 => ?_
   refine wp_seq_k fun K33 hK33 => ?_
   refine wp_region_lit ?_
   refine seg ha 1 [(1, .pointer (some ⟨g7, 0, none⟩)), (3, .bool t12), (5, .slice ao21 t20.1.length cap21), (7, .int .i64 (0 : Int)), (8, .int .i64 (2 : Int)), (9, .int .i64 (0 : Int))] (by kernel_rfl) fun a ha => ?_
   refine hK33 _ _ ?_; try clear hK33 K33
   refine wp_block ?_
   obtain ⟨s34, H34, H⟩ := bind_some H
   have J34 : ∀ s34' (a : Act) (wx34 : World), s34 = .inr s34' → Has a Tryd.f10.ntmps [(1, .pointer (some ⟨g7, 0, none⟩)), (3, .bool t12), (5, .slice ao21 t20.1.length cap21), (8, .int .i64 (2 : Int))] → (RSl rS_api_Segment 93 wx34 (M) ao1 cap1 a0.Path) → (RSl rS_api_Addr 24 wx34 (M) ao2 cap2 a0.Clusters) → (RSl (rArr .u8 8) 114 wx34 (M) ao3 cap3 a0.Exts) → (RSl rS_api_Tunnel 27 wx34 (M) ao4 cap4 a0.Tunnels) → (RSl rS_api_Raw 61 wx34 (M) ao21 cap21 t20.1) → (∀ j v, (cS_api_Attrs a0 ao1 cap1 ao2 cap2 ao3 cap3 ao4 cap4)[j]? = some v → wx34.cell? ⟨g7, 0 + j, none⟩ = some v) → (g7 ∉ (M)) → (Chg [] w wx34) → (MS (M) wx34) → K32 a wx34 := by
    intro s34' a wx34 hs ha f1 f2 f3 f4 f21 hE9 hn10 hC hM
    subst hs
    refine hK32 _ _ ?_; try clear hK32 K32
    refine wp_seq_k fun K37 hK37 => ?_
    refine wp_region_lit ?_
    refine seg ha 1 [(1, .pointer (some ⟨g7, 0, none⟩)), (3, .bool t12), (5, .slice ao21 t20.1.length cap21), (8, .int .i64 (2 : Int)), (54, .pointer (some ⟨g7, 0 + 2, none⟩))] (by kernel_rfl) fun a ha => ?_
    refine ld ha rfl (by kernel_rfl) rfl rfl rfl (hE9 2 (.int .i64 a0.Med) (by kernel_rfl)) fun a ha => ?_
    refine seg ha 2 [(1, .pointer (some ⟨g7, 0, none⟩)), (3, .bool t12), (5, .slice ao21 t20.1.length cap21), (8, .int .i64 (2 : Int)), (56, .bool (decide (a0.Med ≥ (0 : Int)))), (57, .pointer (some ⟨g7, 0 + 3, none⟩))] (by kernel_rfl) fun a ha => ?_
    refine ld ha rfl (by kernel_rfl) rfl rfl rfl (hE9 3 (.int .i64 a0.Pref) (by kernel_rfl)) fun a ha => ?_
    refine seg ha 3 [(1, .pointer (some ⟨g7, 0, none⟩)), (3, .bool t12), (5, .slice ao21 t20.1.length cap21), (8, .int .i64 (2 : Int)), (56, .bool (decide (a0.Med ≥ (0 : Int)))), (59, .bool (decide (a0.Pref ≥ (0 : Int)))), (61, .pointer (some ⟨g7, 0 + 4, none⟩))] (by kernel_rfl) fun a ha => ?_
    refine ld ha rfl (by kernel_rfl) rfl rfl rfl (hE9 4 (.int .i64 a0.Originator.Size) (by kernel_rfl)) fun a ha => ?_
    refine seg ha 2 [(1, .pointer (some ⟨g7, 0, none⟩)), (3, .bool t12), (5, .slice ao21 t20.1.length cap21), (8, .int .i64 (2 : Int)), (56, .bool (decide (a0.Med ≥ (0 : Int)))), (59, .bool (decide (a0.Pref ≥ (0 : Int)))), (63, .bool (decide (a0.Originator.Size > (0 : Int)))), (64, .pointer (some ⟨g7, 0 + 21, none⟩))] (by kernel_rfl) fun a ha => ?_
    refine ld ha rfl (by kernel_rfl) rfl rfl rfl (hE9 21 (.slice ao2 a0.Clusters.length cap2) (by kernel_rfl)) fun a ha => ?_
    refine seg ha 3 [(1, .pointer (some ⟨g7, 0, none⟩)), (3, .bool t12), (5, .slice ao21 t20.1.length cap21), (8, .int .i64 (2 : Int)), (56, .bool (decide (a0.Med ≥ (0 : Int)))), (59, .bool (decide (a0.Pref ≥ (0 : Int)))), (63, .bool (decide (a0.Originator.Size > (0 : Int)))), (67, .bool (decide ((a0.Clusters.length : Int) > (0 : Int)))), (68, .pointer (some ⟨g7, 0 + 22, none⟩))] (by kernel_rfl) fun a ha => ?_
    refine ld ha rfl (by kernel_rfl) rfl rfl rfl (hE9 22 (.slice ao3 a0.Exts.length cap3) (by kernel_rfl)) fun a ha => ?_
    refine seg ha 3 [(1, .pointer (some ⟨g7, 0, none⟩)), (3, .bool t12), (5, .slice ao21 t20.1.length cap21), (8, .int .i64 (2 : Int)), (56, .bool (decide (a0.Med ≥ (0 : Int)))), (59, .bool (decide (a0.Pref ≥ (0 : Int)))), (63, .bool (decide (a0.Originator.Size > (0 : Int)))), (67, .bool (decide ((a0.Clusters.length : Int) > (0 : Int)))), (71, .bool (decide ((a0.Exts.length : Int) > (0 : Int)))), (72, .pointer (some ⟨g7, 0 + 23, none⟩))] (by kernel_rfl) fun a ha => ?_
    refine ld ha rfl (by kernel_rfl) rfl rfl rfl (hE9 23 (.slice ao4 a0.Tunnels.length cap4) (by kernel_rfl)) fun a ha => ?_
    refine seg ha 2 [(1, .pointer (some ⟨g7, 0, none⟩)), (3, .bool t12), (5, .slice ao21 t20.1.length cap21), (8, .int .i64 (2 : Int)), (56, .bool (decide (a0.Med ≥ (0 : Int)))), (59, .bool (decide (a0.Pref ≥ (0 : Int)))), (63, .bool (decide (a0.Originator.Size > (0 : Int)))), (67, .bool (decide ((a0.Clusters.length : Int) > (0 : Int)))), (71, .bool (decide ((a0.Exts.length : Int) > (0 : Int)))), (75, .bool (decide ((a0.Tunnels.length : Int) > (0 : Int))))] (by kernel_rfl) fun a ha => ?_
    refine bsl (vals := ([.bool (decide (a0.Med ≥ (0 : Int))), .bool (decide (a0.Pref ≥ (0 : Int))), .bool (decide (a0.Originator.Size > (0 : Int))), .bool (decide ((a0.Clusters.length : Int) > (0 : Int))), .bool (decide ((a0.Exts.length : Int) > (0 : Int))), .bool (decide ((a0.Tunnels.length : Int) > (0 : Int)))] : List Value)) (T := 4) ha rfl (([.bool (decide (a0.Med ≥ (0 : Int)))] : List Value) ++ (([.bool (decide (a0.Pref ≥ (0 : Int)))] : List Value) ++ (([.bool (decide (a0.Originator.Size > (0 : Int)))] : List Value) ++ (([.bool (decide ((a0.Clusters.length : Int) > (0 : Int)))] : List Value) ++ (([.bool (decide ((a0.Exts.length : Int) > (0 : Int)))] : List Value) ++ (([.bool (decide ((a0.Tunnels.length : Int) > (0 : Int)))] : List Value) ++ ([] : List Value))))))) (fun w => by kernel_rfl) rfl rfl rfl fun a w38 g39 hN40 ha => ?_
    have o1 : Ok [] (M) wx34.heap.size := Ok.nil _ _
    have o2 : Ok ([g39] ++ (M)) (M) wx34.heap.size := (Ok.app (hN40.ok _) (Ok.refl _ _))
    have f1 := f1.chg hN40.chg o1 o2
    have f2 := f2.chg hN40.chg o1 o2
    have f3 := f3.chg hN40.chg o1 o2
    have f4 := f4.chg hN40.chg o1 o2
    have f21 := f21.chg hN40.chg o1 o2
    have q_hn10 : g7 ∉ [g39] ++ (M) := fun h => (o2 g7 h).elim hn10 (fun h => absurd (lt_cell (hE9 0 _ rfl)) (Nat.not_lt.2 h))
    have hE9 : ∀ j v, (cS_api_Attrs a0 ao1 cap1 ao2 cap2 ao3 cap3 ao4 cap4)[j]? = some v → w38.cell? ⟨g7, 0 + j, none⟩ = some v := fun j v hv => (cell_keep hN40.chg o1 hn10 (hE9 j v hv))
    have hn10 := q_hn10
    have p_i41_M : ∀ x ∈ [g39], x ∉ M := fun x hx hy => absurd (hM x (hy)) (Nat.not_lt.2 ((hN40.ge1) x hx))
    have e_i41 : ∀ x ∈ [g39], w.heap.size ≤ x := fun x hx => Nat.le_trans hC.size ((hN40.ge1) x hx)
    have hM : MS ([g39] ++ (M)) w38 := (MS.app hN40.ms (hM.chg hN40.chg))
    have hC := hC.trans hN40.chg (Ok.nil _ _)
    have f42 : Own rBool 4 w38 ([g39] ++ (M)) (some ⟨g39, 0, none⟩) 6 ([decide (a0.Med ≥ (0 : Int)), decide (a0.Pref ≥ (0 : Int)), decide (a0.Originator.Size > (0 : Int)), decide ((a0.Clusters.length : Int) > (0 : Int)), decide ((a0.Exts.length : Int) > (0 : Int)), decide ((a0.Tunnels.length : Int) > (0 : Int))] : List Bool) := hN40.own ⟨([.bool (decide (a0.Med ≥ (0 : Int)))] : List Value), _, rfl, rfl, ⟨([.bool (decide (a0.Pref ≥ (0 : Int)))] : List Value), _, rfl, rfl, ⟨([.bool (decide (a0.Originator.Size > (0 : Int)))] : List Value), _, rfl, rfl, ⟨([.bool (decide ((a0.Clusters.length : Int) > (0 : Int)))] : List Value), _, rfl, rfl, ⟨([.bool (decide ((a0.Exts.length : Int) > (0 : Int)))] : List Value), _, rfl, rfl, ⟨([.bool (decide ((a0.Tunnels.length : Int) > (0 : Int)))] : List Value), _, rfl, rfl, rfl⟩⟩⟩⟩⟩⟩ (Nat.le_of_ble_eq_true rfl)
    refine seg ha 1 [(1, .pointer (some ⟨g7, 0, none⟩)), (3, .bool t12), (5, .slice ao21 t20.1.length cap21), (8, .int .i64 (2 : Int)), (10, .slice (some ⟨g39, 0, none⟩) ([decide (a0.Med ≥ (0 : Int)), decide (a0.Pref ≥ (0 : Int)), decide (a0.Originator.Size > (0 : Int)), decide ((a0.Clusters.length : Int) > (0 : Int)), decide ((a0.Exts.length : Int) > (0 : Int)), decide ((a0.Tunnels.length : Int) > (0 : Int))] : List Bool).length 6)] (by kernel_rfl) fun a ha => ?_
    refine hK37 _ _ ?_; try clear hK37 K37
    refine wp_seq_k fun K43 hK43 => ?_
    refine wp_seq_k fun K44 hK44 => ?_
    refine wp_region_lit ?_
    refine seg ha 1 [(1, .pointer (some ⟨g7, 0, none⟩)), (3, .bool t12), (5, .slice ao21 t20.1.length cap21), (8, .int .i64 (2 : Int)), (10, .slice (some ⟨g39, 0, none⟩) ([decide (a0.Med ≥ (0 : Int)), decide (a0.Pref ≥ (0 : Int)), decide (a0.Originator.Size > (0 : Int)), decide ((a0.Clusters.length : Int) > (0 : Int)), decide ((a0.Exts.length : Int) > (0 : Int)), decide ((a0.Tunnels.length : Int) > (0 : Int))] : List Bool).length 6), (11, .int .i64 (0 : Int))] (by kernel_rfl) fun a ha => ?_
    refine hK44 _ _ ?_; try clear hK44 K44
    refine wp_block ?_
    obtain ⟨s45, H45, H⟩ := bind_some H
    have J45 : ∀ (a : Act) (wx45 : World), Has a Tryd.f10.ntmps [(1, .pointer (some ⟨g7, 0, none⟩)), (3, .bool t12), (5, .slice ao21 t20.1.length cap21), (8, .int .i64 s45)] → (RSl rS_api_Segment 93 wx45 (M) ao1 cap1 a0.Path) → (RSl rS_api_Addr 24 wx45 (M) ao2 cap2 a0.Clusters) → (RSl (rArr .u8 8) 114 wx45 (M) ao3 cap3 a0.Exts) → (RSl rS_api_Tunnel 27 wx45 (M) ao4 cap4 a0.Tunnels) → (RSl rS_api_Raw 61 wx45 (M) ao21 cap21 t20.1) → (∀ j v, (cS_api_Attrs a0 ao1 cap1 ao2 cap2 ao3 cap3 ao4 cap4)[j]? = some v → wx45.cell? ⟨g7, 0 + j, none⟩ = some v) → (g7 ∉ (M)) → (Chg [] w wx45) → (MS (M) wx45) → K43 a wx45 := by
     intro a wx45 ha f1 f2 f3 f4 f21 hE9 hn10 hC hM
     refine hK43 _ _ ?_; try clear hK43 K43
     refine wp_seq_k fun K48 hK48 => ?_
     refine wp_region_lit ?_
     obtain ⟨s49, H49, H⟩ := bind_some H
     have J49 : ∀ (a : Act) (w49 : World), Has a Tryd.f10.ntmps [(2, .bool s49)] → (Chg [] w w49) → (MS (M) w49) → K48 a w49 := by
      intro a w49 ha hC hM
      refine hK48 _ _ ?_; try clear hK48 K48
      refine wp_ret ?_
      try simp only [Exit.then, Exit.inBlock]
      obtain rfl := Option.some.inj H
      refine rt1 ha rfl rfl ?_
      exact ⟨rfl, hC, hM⟩
     have H := H49
     refine seg ha 2 [(90, .bool t12), (1, .pointer (some ⟨g7, 0, none⟩)), (5, .slice ao21 t20.1.length cap21), (8, .int .i64 s45)] (by kernel_rfl) fun a ha => ?_
     rcases Bool.eq_false_or_eq_true (t12) with hb50 | hb50
     ·have ha := ha.lit hb50
      have H := ite_t hb50 H
      refine sgh ha 6 [2, 2, 2, 2, 3, 0] [(96, .bool ((t20.1.length : Int) == s45)), (1, .pointer (some ⟨g7, 0, none⟩)), (5, .slice ao21 t20.1.length cap21)] (by kernel_rfl) fun a ha => ?_
      rcases Bool.eq_false_or_eq_true ((t20.1.length : Int) == s45) with hb51 | hb51
      ·have ha := ha.lit hb51
       have H := ite_t hb51 H
       refine sgh ha 1 [2] [(1, .pointer (some ⟨g7, 0, none⟩)), (5, .slice ao21 t20.1.length cap21), (96, .bool true), (97, .slice ao21 t20.1.length cap21)] (by kernel_rfl) fun a ha => ?_
       obtain ⟨⟨hx52, hx52'⟩, H⟩ := ite_some H
       refine ix (r := rS_api_Raw) ha (by kernel_rfl) (by kernel_rfl) rfl rfl rfl rfl rfl f21 hx52 hx52' fun a ge53 oe54 cs55 hn58 hR56 hE57 ha => ?_
       rw [rd_get] at hR56
       obtain ⟨ao59, cap59, rfl, f59⟩ := rS_api_Raw.open hR56
       refine sgh ha 1 [2] [(1, .pointer (some ⟨g7, 0, none⟩)), (5, .slice ao21 t20.1.length cap21), (96, .bool true), (99, .pointer (some ⟨ge53, oe54 + 1, none⟩))] (by kernel_rfl) fun a ha => ?_
       refine ld ha rfl (by kernel_rfl) rfl rfl rfl (hE57 1 (.int .i64 ((rd t20.1 (0 : Int)).Kind)) (by kernel_rfl)) fun a ha => ?_
       refine sgh ha 3 [2, 3, 0] [(103, .bool (((rd t20.1 (0 : Int)).Kind) == (1 : Int))), (1, .pointer (some ⟨g7, 0, none⟩)), (5, .slice ao21 t20.1.length cap21)] (by kernel_rfl) fun a ha => ?_
       rcases Bool.eq_false_or_eq_true (((rd t20.1 (0 : Int)).Kind) == (1 : Int)) with hb60 | hb60
       ·have ha := ha.lit hb60
        have H := ite_t hb60 H
        refine sgh ha 1 [2] [(1, .pointer (some ⟨g7, 0, none⟩)), (103, .bool true), (104, .slice ao21 t20.1.length cap21)] (by kernel_rfl) fun a ha => ?_
        obtain ⟨⟨hx61, hx61'⟩, H⟩ := ite_some H
        refine ix (r := rS_api_Raw) ha (by kernel_rfl) (by kernel_rfl) rfl rfl rfl rfl rfl f21 hx61 hx61' fun a ge62 oe63 cs64 hn67 hR65 hE66 ha => ?_
        rw [rd_get] at hR65
        obtain ⟨ao68, cap68, rfl, f68⟩ := rS_api_Raw.open hR65
        refine sgh ha 1 [2] [(1, .pointer (some ⟨g7, 0, none⟩)), (103, .bool true), (106, .pointer (some ⟨ge62, oe63 + 1, none⟩))] (by kernel_rfl) fun a ha => ?_
        refine ld ha rfl (by kernel_rfl) rfl rfl rfl (hE66 1 (.int .i64 ((rd t20.1 (1 : Int)).Kind)) (by kernel_rfl)) fun a ha => ?_
        refine sgh ha 3 [2, 3, 0] [(110, .bool (((rd t20.1 (1 : Int)).Kind) == (2 : Int))), (1, .pointer (some ⟨g7, 0, none⟩))] (by kernel_rfl) fun a ha => ?_
        rcases Bool.eq_false_or_eq_true (((rd t20.1 (1 : Int)).Kind) == (2 : Int)) with hb69 | hb69
        ·have ha := ha.lit hb69
         have H := ite_t hb69 H
         refine ldA (cs := (cS_api_Attrs a0 ao1 cap1 ao2 cap2 ao3 cap3 ao4 cap4)) ha rfl (by kernel_rfl) rfl rfl rfl (cells_sub hE9 (all := (cS_api_Attrs a0 ao1 cap1 ao2 cap2 ao3 cap3 ao4 cap4)) [] [] (by kernel_rfl)) fun a ha => ?_
         obtain ⟨t70, H70, H⟩ := bind_some H
         refine cl ha (by rfl) (by kernel_rfl) (by rfl) (by rfl) (by rfl) (attr_Right.walk wx45 _ hM a0 ao1 cap1 f1 ao2 cap2 f2 ao3 cap3 f3 ao4 cap4 f4 k _ H70) ?_
         rintro _ w70 ⟨rfl, hc70, hMn⟩ a ha
         have o1 : Ok [] (M) wx45.heap.size := Ok.nil _ _
         have o2 : Ok (M) (M) wx45.heap.size := (Ok.refl _ _)
         have f1 := f1.chg hc70 o1 o2
         have f2 := f2.chg hc70 o1 o2
         have f3 := f3.chg hc70 o1 o2
         have f4 := f4.chg hc70 o1 o2
         have hM : MS (M) w70 := (hM.chg hc70)
         have hC := hC.trans hc70 (Ok.nil _ _)
         refine sgh ha 2 [3, 0] [(2, .bool t70)] (by kernel_rfl) fun a ha => ?_
         obtain rfl := Option.some.inj H
         exact J49 _ _ (ha.sel (by kernel_rfl)) hC hM
        ·have ha := ha.lit hb69
         have H := ite_f hb69 H
         refine sgh ha 4 [1, 1, 4, 0] [(2, .bool false)] (by kernel_rfl) fun a ha => ?_
         obtain rfl := Option.some.inj H
         exact J49 _ _ (ha.sel (by kernel_rfl)) hC hM
       ·have ha := ha.lit hb60
        have H := ite_f hb60 H
        refine sgh ha 11 [1, 1, 1, 1, 1, 4, 0, 1, 1, 4, 0] [(2, .bool false)] (by kernel_rfl) fun a ha => ?_
        obtain rfl := Option.some.inj H
        exact J49 _ _ (ha.sel (by kernel_rfl)) hC hM
      ·have ha := ha.lit hb51
       have H := ite_f hb51 H
       refine sgh ha 18 [1, 1, 1, 1, 1, 4, 0, 1, 1, 1, 1, 1, 4, 0, 1, 1, 4, 0] [(2, .bool false)] (by kernel_rfl) fun a ha => ?_
       obtain rfl := Option.some.inj H
       exact J49 _ _ (ha.sel (by kernel_rfl)) hC hM
     ·have ha := ha.lit hb50
      have H := ite_f hb50 H
      refine sgh ha 24 [1, 1, 1, 1, 4, 0, 1, 1, 1, 1, 1, 4, 0, 1, 1, 1, 1, 1, 4, 0, 1, 1, 4, 0] [(2, .bool false)] (by kernel_rfl) fun a ha => ?_
      obtain rfl := Option.some.inj H
      exact J49 _ _ (ha.sel (by kernel_rfl)) hC hM
    have Hc45 := H
    have H := H45
    refine wp_loop_ghost (fun kk a w45 => ∃ (x46 : Int) (x47 : Int), vinerylaw09_AttrOrders.l1 a0 kk x46 x47 = some s45 ∧ Has a Tryd.f10.ntmps [(1, .pointer (some ⟨g7, 0, none⟩)), (3, .bool t12), (5, .slice ao21 t20.1.length cap21), (8, .int .i64 x46), (10, .slice (some ⟨g39, 0, none⟩) ([decide (a0.Med ≥ (0 : Int)), decide (a0.Pref ≥ (0 : Int)), decide (a0.Originator.Size > (0 : Int)), decide ((a0.Clusters.length : Int) > (0 : Int)), decide ((a0.Exts.length : Int) > (0 : Int)), decide ((a0.Tunnels.length : Int) > (0 : Int))] : List Bool).length 6), (11, .int .i64 x47)] ∧ (RSl rS_api_Segment 93 w45 ([g39] ++ (M)) ao1 cap1 a0.Path) ∧ (RSl rS_api_Addr 24 w45 ([g39] ++ (M)) ao2 cap2 a0.Clusters) ∧ (RSl (rArr .u8 8) 114 w45 ([g39] ++ (M)) ao3 cap3 a0.Exts) ∧ (RSl rS_api_Tunnel 27 w45 ([g39] ++ (M)) ao4 cap4 a0.Tunnels) ∧ (RSl rS_api_Raw 61 w45 ([g39] ++ (M)) ao21 cap21 t20.1) ∧ (Own rBool 4 w45 ([g39] ++ (M)) (some ⟨g39, 0, none⟩) 6 ([decide (a0.Med ≥ (0 : Int)), decide (a0.Pref ≥ (0 : Int)), decide (a0.Originator.Size > (0 : Int)), decide ((a0.Clusters.length : Int) > (0 : Int)), decide ((a0.Exts.length : Int) > (0 : Int)), decide ((a0.Tunnels.length : Int) > (0 : Int))] : List Bool)) ∧ (∀ j v, (cS_api_Attrs a0 ao1 cap1 ao2 cap2 ao3 cap3 ao4 cap4)[j]? = some v → w45.cell? ⟨g7, 0 + j, none⟩ = some v) ∧ (g7 ∉ ([g39] ++ (M))) ∧ (Chg [] w w45) ∧ (MS ([g39] ++ (M)) w45)) k ?_ ?_
    ·skip
     exact ⟨(2 : Int), (0 : Int), H, (ha.sel (by kernel_rfl)), f1, f2, f3, f4, f21, f42, hE9, hn10, hC, hM⟩
    ·rintro kk a w45 ⟨x46, x47, H, ha, f1, f2, f3, f4, f21, f42, hE9, hn10, hC, hM⟩
     obtain _ | kk := kk
     ·exact nomatch (show none = some _ from H)
     rw [vinerylaw09_AttrOrders.l1] at H
     refine wp_seq_k fun K71 hK71 => ?_
     refine wp_seq_k fun K72 hK72 => ?_
     refine wp_region_lit ?_
     refine seg ha 4 [(1, .pointer (some ⟨g7, 0, none⟩)), (3, .bool t12), (5, .slice ao21 t20.1.length cap21), (8, .int .i64 x46), (10, .slice (some ⟨g39, 0, none⟩) ([decide (a0.Med ≥ (0 : Int)), decide (a0.Pref ≥ (0 : Int)), decide (a0.Originator.Size > (0 : Int)), decide ((a0.Clusters.length : Int) > (0 : Int)), decide ((a0.Exts.length : Int) > (0 : Int)), decide ((a0.Tunnels.length : Int) > (0 : Int))] : List Bool).length 6), (11, .int .i64 x47), (80, .bool (decide (x47 < (([decide (a0.Med ≥ (0 : Int)), decide (a0.Pref ≥ (0 : Int)), decide (a0.Originator.Size > (0 : Int)), decide ((a0.Clusters.length : Int) > (0 : Int)), decide ((a0.Exts.length : Int) > (0 : Int)), decide ((a0.Tunnels.length : Int) > (0 : Int))] : List Bool).length : Int))))] (by kernel_rfl) fun a ha => ?_
     refine hK72 _ _ ?_; try clear hK72 K72
     refine cnd ha rfl (fun hc73 => ?_) (fun hc73 => ?_)
     ·have H := ite_t hc73 H
      refine wp_skip ?_
      refine hK71 _ _ ?_; try clear hK71 K71
      refine wp_seq_k fun K74 hK74 => ?_
      refine wp_block ?_
      refine wp_seq_k fun K75 hK75 => ?_
      refine wp_region_lit ?_
      refine seg ha 2 [(1, .pointer (some ⟨g7, 0, none⟩)), (3, .bool t12), (5, .slice ao21 t20.1.length cap21), (8, .int .i64 x46), (10, .slice (some ⟨g39, 0, none⟩) ([decide (a0.Med ≥ (0 : Int)), decide (a0.Pref ≥ (0 : Int)), decide (a0.Originator.Size > (0 : Int)), decide ((a0.Clusters.length : Int) > (0 : Int)), decide ((a0.Exts.length : Int) > (0 : Int)), decide ((a0.Tunnels.length : Int) > (0 : Int))] : List Bool).length 6), (11, .int .i64 x47), (83, .slice (some ⟨g39, 0, none⟩) ([decide (a0.Med ≥ (0 : Int)), decide (a0.Pref ≥ (0 : Int)), decide (a0.Originator.Size > (0 : Int)), decide ((a0.Clusters.length : Int) > (0 : Int)), decide ((a0.Exts.length : Int) > (0 : Int)), decide ((a0.Tunnels.length : Int) > (0 : Int))] : List Bool).length 6), (84, .int .i64 x47)] (by kernel_rfl) fun a ha => ?_
      obtain ⟨⟨hx76, hx76'⟩, H⟩ := ite_some H
      refine ix (r := rBool) ha (by kernel_rfl) (by kernel_rfl) rfl rfl rfl rfl rfl (Own.toRSl (M' := []) f42 (Ok.nil _ _) (fun _ _ h => nomatch h)) hx76 hx76' fun a ge77 oe78 cs79 hn82 hR80 hE81 ha => ?_
      rw [rd_get] at hR80
      obtain rfl := hR80
      have hE81 : ∀ j v, ([.bool (rd ([decide (a0.Med ≥ (0 : Int)), decide (a0.Pref ≥ (0 : Int)), decide (a0.Originator.Size > (0 : Int)), decide ((a0.Clusters.length : Int) > (0 : Int)), decide ((a0.Exts.length : Int) > (0 : Int)), decide ((a0.Tunnels.length : Int) > (0 : Int))] : List Bool) x47)] : List Value)[j]? = some v → w45.cell? ⟨ge77, oe78 + j, none⟩ = some v := hE81
      refine ld ha rfl (by kernel_rfl) rfl rfl rfl (hE81 0 (.bool (rd ([decide (a0.Med ≥ (0 : Int)), decide (a0.Pref ≥ (0 : Int)), decide (a0.Originator.Size > (0 : Int)), decide ((a0.Clusters.length : Int) > (0 : Int)), decide ((a0.Exts.length : Int) > (0 : Int)), decide ((a0.Tunnels.length : Int) > (0 : Int))] : List Bool) x47)) (by kernel_rfl)) fun a ha => ?_
      refine hK75 _ _ ?_; try clear hK75 K75
      refine cnd ha rfl (fun hc83 => ?_) (fun hc83 => ?_)
      ·have H := ite_t hc83 H
       refine wp_region_lit ?_
       refine seg ha 3 [(1, .pointer (some ⟨g7, 0, none⟩)), (3, .bool t12), (5, .slice ao21 t20.1.length cap21), (8, .int .i64 (IntKind.i64.wrap (x46 + (1 : Int)))), (10, .slice (some ⟨g39, 0, none⟩) ([decide (a0.Med ≥ (0 : Int)), decide (a0.Pref ≥ (0 : Int)), decide (a0.Originator.Size > (0 : Int)), decide ((a0.Clusters.length : Int) > (0 : Int)), decide ((a0.Exts.length : Int) > (0 : Int)), decide ((a0.Tunnels.length : Int) > (0 : Int))] : List Bool).length 6), (11, .int .i64 x47)] (by kernel_rfl) fun a ha => ?_
       refine hK74 _ _ ?_; try clear hK74 K74
       refine wp_region_lit ?_
       refine seg ha 3 [(1, .pointer (some ⟨g7, 0, none⟩)), (3, .bool t12), (5, .slice ao21 t20.1.length cap21), (8, .int .i64 (IntKind.i64.wrap (x46 + (1 : Int)))), (10, .slice (some ⟨g39, 0, none⟩) ([decide (a0.Med ≥ (0 : Int)), decide (a0.Pref ≥ (0 : Int)), decide (a0.Originator.Size > (0 : Int)), decide ((a0.Clusters.length : Int) > (0 : Int)), decide ((a0.Exts.length : Int) > (0 : Int)), decide ((a0.Tunnels.length : Int) > (0 : Int))] : List Bool).length 6), (11, .int .i64 (IntKind.i64.wrap (x47 + (1 : Int))))] (by kernel_rfl) fun a ha => ?_
       exact ⟨kk, Nat.lt_succ_self _, ⟨IntKind.i64.wrap (x46 + (1 : Int)), IntKind.i64.wrap (x47 + (1 : Int)), H, (ha.sel (by kernel_rfl)), f1, f2, f3, f4, f21, f42, hE9, hn10, hC, hM⟩⟩
      ·have H := ite_f hc83 H
       refine wp_skip ?_
       refine hK74 _ _ ?_; try clear hK74 K74
       refine wp_region_lit ?_
       refine seg ha 3 [(1, .pointer (some ⟨g7, 0, none⟩)), (3, .bool t12), (5, .slice ao21 t20.1.length cap21), (8, .int .i64 x46), (10, .slice (some ⟨g39, 0, none⟩) ([decide (a0.Med ≥ (0 : Int)), decide (a0.Pref ≥ (0 : Int)), decide (a0.Originator.Size > (0 : Int)), decide ((a0.Clusters.length : Int) > (0 : Int)), decide ((a0.Exts.length : Int) > (0 : Int)), decide ((a0.Tunnels.length : Int) > (0 : Int))] : List Bool).length 6), (11, .int .i64 (IntKind.i64.wrap (x47 + (1 : Int))))] (by kernel_rfl) fun a ha => ?_
       exact ⟨kk, Nat.lt_succ_self _, ⟨x46, IntKind.i64.wrap (x47 + (1 : Int)), H, (ha.sel (by kernel_rfl)), f1, f2, f3, f4, f21, f42, hE9, hn10, hC, hM⟩⟩
     ·have H := ite_f hc73 H
      refine wp_exit ?_
      simp only [Exit.then, Exit.inBlock, ↓reduceIte, Nat.reduceEqDiff]
      obtain rfl := Option.some.inj H
      have o1 : Ok [] ([g39] ++ (M)) w45.heap.size := Ok.nil _ _
      have o2 : Ok (M) ([g39] ++ (M)) w45.heap.size := (fun _ h => .inl (mr (h)))
      have f1 := f1.chg (Chg.refl [] _) o1 o2
      have f2 := f2.chg (Chg.refl [] _) o1 o2
      have f3 := f3.chg (Chg.refl [] _) o1 o2
      have f4 := f4.chg (Chg.refl [] _) o1 o2
      have f21 := f21.chg (Chg.refl [] _) o1 o2
      have q_hn10 : g7 ∉ M := fun h => (o2 g7 h).elim hn10 (fun h => absurd (lt_cell (hE9 0 _ rfl)) (Nat.not_lt.2 h))
      have hE9 : ∀ j v, (cS_api_Attrs a0 ao1 cap1 ao2 cap2 ao3 cap3 ao4 cap4)[j]? = some v → w45.cell? ⟨g7, 0 + j, none⟩ = some v := fun j v hv => (cell_keep (Chg.refl [] _) o1 hn10 (hE9 j v hv))
      have hn10 := q_hn10
      have hM : MS (M) w45 := (fun x h => hM.chg (Chg.refl [] _) x (mr (h)))
      have hC := hC.trans (Chg.refl [] _) (Ok.nil _ _)
      exact J45 _ _ (ha.sel (by kernel_rfl)) f1 f2 f3 f4 f21 hE9 hn10 hC hM
   have Hc34 := H
   have H := H34
   refine wp_loop_ghost (fun kk a w34 => ∃ (x35 : Int) (x36 : Int), vinerylaw09_AttrOrders.l0 t20 kk x35 x36 = some s34 ∧ Has a Tryd.f10.ntmps [(1, .pointer (some ⟨g7, 0, none⟩)), (3, .bool t12), (5, .slice ao21 t20.1.length cap21), (7, .int .i64 x35), (8, .int .i64 (2 : Int)), (9, .int .i64 x36)] ∧ (RSl rS_api_Segment 93 w34 (M) ao1 cap1 a0.Path) ∧ (RSl rS_api_Addr 24 w34 (M) ao2 cap2 a0.Clusters) ∧ (RSl (rArr .u8 8) 114 w34 (M) ao3 cap3 a0.Exts) ∧ (RSl rS_api_Tunnel 27 w34 (M) ao4 cap4 a0.Tunnels) ∧ (RSl rS_api_Raw 61 w34 (M) ao21 cap21 t20.1) ∧ (∀ j v, (cS_api_Attrs a0 ao1 cap1 ao2 cap2 ao3 cap3 ao4 cap4)[j]? = some v → w34.cell? ⟨g7, 0 + j, none⟩ = some v) ∧ (g7 ∉ (M)) ∧ (Chg [] w w34) ∧ (MS (M) w34)) k ?_ ?_
   ·skip
    exact ⟨(0 : Int), (0 : Int), H, (ha.sel (by kernel_rfl)), f1, f2, f3, f4, f21, hE9, hn10, hC, hM⟩
   ·rintro kk a w34 ⟨x35, x36, H, ha, f1, f2, f3, f4, f21, hE9, hn10, hC, hM⟩
    obtain _ | kk := kk
    ·exact nomatch (show none = some _ from H)
    rw [vinerylaw09_AttrOrders.l0] at H
    refine wp_seq_k fun K84 hK84 => ?_
    refine wp_seq_k fun K85 hK85 => ?_
    refine wp_region_lit ?_
    refine seg ha 4 [(1, .pointer (some ⟨g7, 0, none⟩)), (3, .bool t12), (5, .slice ao21 t20.1.length cap21), (7, .int .i64 x35), (8, .int .i64 (2 : Int)), (9, .int .i64 x36), (39, .bool (decide (x36 < (t20.1.length : Int))))] (by kernel_rfl) fun a ha => ?_
    refine hK85 _ _ ?_; try clear hK85 K85
    refine cnd ha rfl (fun hc86 => ?_) (fun hc86 => ?_)
    ·have H := ite_t hc86 H
     refine wp_skip ?_
     refine hK84 _ _ ?_; try clear hK84 K84
     refine wp_seq_k fun K87 hK87 => ?_
     refine wp_block ?_
     refine wp_seq_k fun K88 hK88 => ?_
     refine wp_seq_k fun K89 hK89 => ?_
     refine wp_region_lit ?_
     refine seg ha 2 [(1, .pointer (some ⟨g7, 0, none⟩)), (3, .bool t12), (5, .slice ao21 t20.1.length cap21), (7, .int .i64 x35), (8, .int .i64 (2 : Int)), (9, .int .i64 x36), (42, .slice ao21 t20.1.length cap21), (43, .int .i64 x36)] (by kernel_rfl) fun a ha => ?_
     obtain ⟨⟨hx90, hx90'⟩, H⟩ := ite_some H
     refine ix (r := rS_api_Raw) ha (by kernel_rfl) (by kernel_rfl) rfl rfl rfl rfl rfl f21 hx90 hx90' fun a ge91 oe92 cs93 hn96 hR94 hE95 ha => ?_
     rw [rd_get] at hR94
     obtain ⟨ao97, cap97, rfl, f97⟩ := rS_api_Raw.open hR94
     refine seg ha 1 [(1, .pointer (some ⟨g7, 0, none⟩)), (3, .bool t12), (5, .slice ao21 t20.1.length cap21), (7, .int .i64 x35), (8, .int .i64 (2 : Int)), (9, .int .i64 x36), (45, .pointer (some ⟨ge91, oe92 + 1, none⟩))] (by kernel_rfl) fun a ha => ?_
     refine ld ha rfl (by kernel_rfl) rfl rfl rfl (hE95 1 (.int .i64 ((rd t20.1 x36).Kind)) (by kernel_rfl)) fun a ha => ?_
     refine seg ha 2 [(1, .pointer (some ⟨g7, 0, none⟩)), (3, .bool t12), (5, .slice ao21 t20.1.length cap21), (8, .int .i64 (2 : Int)), (9, .int .i64 x36), (48, .bool (decide (((rd t20.1 x36).Kind) ≤ x35)))] (by kernel_rfl) fun a ha => ?_
     refine hK89 _ _ ?_; try clear hK89 K89
     refine cnd ha rfl (fun hc98 => ?_) (fun hc98 => ?_)
     ·have H := ite_t hc98 H
      refine wp_seq_k fun K99 hK99 => ?_
      refine wp_region_lit ?_
      refine seg ha 1 [(2, .bool false)] (by kernel_rfl) fun a ha => ?_
      refine hK99 _ _ ?_; try clear hK99 K99
      refine wp_ret ?_
      try simp only [Exit.then, Exit.inBlock]
      obtain rfl := Option.some.inj H
      have H := (show some _ = some _ from Hc34)
      obtain rfl := Option.some.inj H
      refine rt1 ha rfl rfl ?_
      exact ⟨rfl, hC, hM⟩
     ·have H := ite_f hc98 H
      refine wp_skip ?_
      refine hK88 _ _ ?_; try clear hK88 K88
      refine wp_region_lit ?_
      refine seg ha 2 [(1, .pointer (some ⟨g7, 0, none⟩)), (3, .bool t12), (5, .slice ao21 t20.1.length cap21), (8, .int .i64 (2 : Int)), (9, .int .i64 x36), (49, .slice ao21 t20.1.length cap21), (50, .int .i64 x36)] (by kernel_rfl) fun a ha => ?_
      obtain ⟨⟨hx100, hx100'⟩, H⟩ := ite_some H
      refine ix (r := rS_api_Raw) ha (by kernel_rfl) (by kernel_rfl) rfl rfl rfl rfl rfl f21 hx100 hx100' fun a ge101 oe102 cs103 hn106 hR104 hE105 ha => ?_
      rw [rd_get] at hR104
      obtain ⟨ao107, cap107, rfl, f107⟩ := rS_api_Raw.open hR104
      refine seg ha 1 [(1, .pointer (some ⟨g7, 0, none⟩)), (3, .bool t12), (5, .slice ao21 t20.1.length cap21), (8, .int .i64 (2 : Int)), (9, .int .i64 x36), (52, .pointer (some ⟨ge101, oe102 + 1, none⟩))] (by kernel_rfl) fun a ha => ?_
      refine ld ha rfl (by kernel_rfl) rfl rfl rfl (hE105 1 (.int .i64 ((rd t20.1 x36).Kind)) (by kernel_rfl)) fun a ha => ?_
      refine seg ha 1 [(1, .pointer (some ⟨g7, 0, none⟩)), (3, .bool t12), (5, .slice ao21 t20.1.length cap21), (7, .int .i64 ((rd t20.1 x36).Kind)), (8, .int .i64 (2 : Int)), (9, .int .i64 x36)] (by kernel_rfl) fun a ha => ?_
      refine hK87 _ _ ?_; try clear hK87 K87
      refine wp_region_lit ?_
      refine seg ha 3 [(1, .pointer (some ⟨g7, 0, none⟩)), (3, .bool t12), (5, .slice ao21 t20.1.length cap21), (7, .int .i64 ((rd t20.1 x36).Kind)), (8, .int .i64 (2 : Int)), (9, .int .i64 (IntKind.i64.wrap (x36 + (1 : Int))))] (by kernel_rfl) fun a ha => ?_
      exact ⟨kk, Nat.lt_succ_self _, ⟨(rd t20.1 x36).Kind, IntKind.i64.wrap (x36 + (1 : Int)), H, (ha.sel (by kernel_rfl)), f1, f2, f3, f4, f21, hE9, hn10, hC, hM⟩⟩
    ·have H := ite_f hc86 H
     refine wp_exit ?_
     simp only [Exit.then, Exit.inBlock, ↓reduceIte, Nat.reduceEqDiff]
     obtain rfl := Option.some.inj H
     exact J34 _ _ _ rfl (ha.sel (by kernel_rfl)) f1 f2 f3 f4 f21 hE9 hn10 hC hM
end Go.E
