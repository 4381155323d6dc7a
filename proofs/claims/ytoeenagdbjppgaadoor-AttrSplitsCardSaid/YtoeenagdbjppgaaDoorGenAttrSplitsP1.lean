/- What the functions that the law reaches compute, and the walks that show it. -/
import Derived.Test.YtoeenagdbjppgaaDoorEngO
import Derived.Test.YtoeenagdbjppgaaDoorEngX
import Derived.Test.YtoeenagdbjppgaaDoorEngQ
import Derived.Test.YtoeenagdbjppgaaDoorEngY
import Derived.Test.YtoeenagdbjppgaaDoorEngZ
import Derived.Test.YtoeenagdbjppgaaDoorProg
import Derived.Test.YtoeenagdbjppgaaDoorGenAttrSplitsP0
set_option linter.unusedVariables false
set_option linter.unusedSimpArgs false
namespace Go.E
open Go.RowKit Go.Proofs
/-! attributes in other memory: a row of attributes whose values lie each in a block of its own, one byte longer -/
def eLent (p : S_api_Raw × Nat) : List Value := [.int .i64 p.1.Flags, .int .i64 p.1.Kind, .slice (some ⟨p.2, 0, none⟩) p.1.Value.length (p.1.Value.length + 1)]
def rLent : Rep (S_api_Raw × Nat) where
  sz := 3
  R _ _ cs p := cs = eLent p
  len h := by rw [h]; rfl
  one h := by rw [h]; intro u hu; simp [eLent] at hu; rcases hu with rfl | rfl | rfl <;> rfl
  chg h _ _ _ := h
theorem fLent : Flat rLent eLent := ⟨fun _ _ _ _ => Iff.rfl⟩
def bLent (x : S_api_Raw) : List Value := x.Value.map (.int .u8) ++ [.int .u8 77]
def LB (ao : Option Addr) (ps : List (S_api_Raw × Nat)) : List Nat := blkL ao ++ ps.map (·.2)
structure LentAt (w : World) (ao : Option Addr) (cap : Nat) (ps : List (S_api_Raw × Nat)) : Prop where
  row : Own rLent 61 w (blkL ao) ao cap ps
  box : ∀ p ∈ ps, Box w p.2 (bLent p.1)
  apart : ∀ p ∈ ps, p.2 ∉ blkL ao
  small : ∀ p ∈ ps, p.1.Value.length ≤ 281474976710655
theorem own_L {w w' : World} {M M' gs : List Nat} {ao : Option Addr} {cap : Nat} {xs : List (S_api_Raw × Nat)} (h : Own rLent 61 w M ao cap xs) (hc : Chg gs w w') (hn : ∀ y ∈ blkL ao, y ∉ gs) (hm : ∀ y ∈ blkL ao, y ∈ M') : Own rLent 61 w' M' ao cap xs := by
  rcases h with h | ⟨g, cur, rfl, hg, hb, h1, h2, h3, hl⟩
  · exact .inl h
  · exact .inr ⟨g, cur, rfl, hm g (by simp [blkL]), hc.at hb (hn g (by simp [blkL])), h1, h2, h3, (RL.flat fLent).2 ((RL.flat fLent).1 hl)⟩
theorem LentAt.chg {w w' : World} {ao : Option Addr} {cap : Nat} {ps : List (S_api_Raw × Nat)} {gs : List Nat} (h : LentAt w ao cap ps) (hc : Chg gs w w') (hn : ∀ y ∈ LB ao ps, y ∉ gs) : LentAt w' ao cap ps :=
  ⟨own_L h.row hc (fun y hy => hn y (List.mem_append_left _ hy)) (fun _ h => h), fun p hp => (h.box p hp).chg hc (hn _ (List.mem_append_right _ (List.mem_map.2 ⟨p, hp, rfl⟩))), h.apart, h.small⟩
/-- it can be read -/
theorem LentAt.rsl {w : World} {ao : Option Addr} {cap : Nat} {ps : List (S_api_Raw × Nat)} (h : LentAt w ao cap ps) (M : List Nat) (hM : ∀ y ∈ LB ao ps, y ∉ M) : RSl rS_api_Raw 61 w M ao cap (ps.map (·.1)) := by
  have hmax : maxLen = 9223372036854775807 := rfl
  have key : ∀ (qs : List (S_api_Raw × Nat)), (∀ p ∈ qs, p ∈ ps) → RL rS_api_Raw w M (qs.flatMap eLent) (qs.map (·.1)) := by
    intro qs
    induction qs with
    | nil => intro _; rfl
    | cons p qs ih =>
      intro hq
      refine ⟨eLent p, qs.flatMap eLent, by rw [List.flatMap_cons], ?_, ih fun q hq' => hq q (List.mem_cons_of_mem _ hq')⟩
      have hp := hq p (List.mem_cons_self ..)
      have hs := h.small p hp
      exact rS_api_Raw.mk p.1 (Box.bytes (T := 5) (tl := [.int .u8 77]) (h.box p hp) (hM _ (List.mem_append_right _ (List.mem_map.2 ⟨p, hp, rfl⟩))) (Nat.le_succ _) (by rw [hmax]; omega))
  rcases h.row with ⟨_, rfl, rfl⟩ | ⟨g, cur, rfl, _, hb, h1, h2, h3, hl⟩
  · exact ⟨Nat.le_refl _, by rw [hmax]; decide, .inl rfl⟩
  · refine ⟨by rw [List.length_map]; exact h2, h3, .inr ⟨g, 0, cur, (61, (0, 0)), rfl, hM g (by simp [LB, blkL]), hb, ?_⟩⟩
    have e := (RL.flat fLent).1 hl
    rw [List.drop_zero, List.length_map, show rS_api_Raw.sz = rLent.sz from rfl, e]
    exact key ps fun _ h => h
def vinerylaw09_lent.f (l : List S_api_Raw) : Option (List S_api_Raw) := if l.length * 40 ≤ 140737488355328 ∧ l.all (fun x => decide (x.Value.length ≤ 281474976710655)) = true then some l else none
set_option maxRecDepth 100000 in
theorem lentr_walk (w : World) (M : List Nat) (hM : MS M w) (l : List S_api_Raw) (aol : Option Addr) (capl : Nat) (f1 : RSl rS_api_Raw 61 w M aol capl l) (hb : l.length * 40 ≤ 140737488355328) (hv : ∀ x ∈ l, x.Value.length ≤ 281474976710655) :
    To Tryd.prog 27 [.slice aol l.length capl] w fun v w' => ∃ (ao : Option Addr) (cap : Nat) (ps : List (S_api_Raw × Nat)), v = .slice ao l.length cap ∧ ps.map (·.1) = l ∧ LentAt w' ao cap ps ∧ (∀ y ∈ LB ao ps, w.heap.size ≤ y) ∧ Chg [] w w' := by
  have hmax : maxLen = 9223372036854775807 := rfl
  refine ent Tryd.func27 rfl [(0, .slice aol l.length capl)] rfl (by rfl) fun a ha => ?_
  refine wp_seq_k fun K hK => ?_
  refine wp_region_lit ?_
  refine seg ha 1 [(0, .slice aol l.length capl)] (by kernel_rfl) fun a ha => ?_
  refine hK _ _ ?_; clear hK K
  refine wp_seq_k fun K hK => ?_
  refine wp_region_lit ?_
  refine seg ha 1 [(0, .slice aol l.length capl), (3, .slice none 0 0)] (by kernel_rfl) fun a ha => ?_
  refine hK _ _ ?_; clear hK K
  refine wp_seq_k fun K hK => ?_
  refine wp_seq_k fun K2 hK2 => ?_
  refine wp_region_lit ?_
  refine seg ha 1 [(0, .slice aol l.length capl), (3, .slice none ([] : List (S_api_Raw × Nat)).length 0), (4, .int .i64 ((0 : Nat) : Int))] (by kernel_rfl) fun a ha => ?_
  refine hK2 _ _ ?_; clear hK2 K2
  refine wp_block ?_
  have J : ∀ (a : Act) (w1 : World) (ao : Option Addr) (cap : Nat) (ps : List (S_api_Raw × Nat)), Has a Tryd.f27.ntmps [(3, .slice ao ps.length cap)] → ps.map (·.1) = l → LentAt w1 ao cap ps → (∀ y ∈ LB ao ps, w.heap.size ≤ y) → Chg [] w w1 → K a w1 := by
    intro a w1 ao cap ps ha e hL hge hC
    have el : ps.length = l.length := by rw [← e, List.length_map]
    rw [el] at ha
    refine hK _ _ ?_; clear hK K
    refine wp_seq_k fun K hK => ?_
    refine wp_region_lit ?_
    refine seg ha 2 [(2, .slice ao l.length cap)] (by kernel_rfl) fun a ha => ?_
    refine hK _ _ ?_; clear hK K
    refine wp_ret ?_
    exact rt1 ha rfl rfl ⟨ao, cap, ps, rfl, e, hL, hge, hC⟩
  refine wp_loop_ghost (fun kk a w1 => ∃ (i : Nat) (ao : Option Addr) (cap : Nat) (ps : List (S_api_Raw × Nat)), kk = l.length - i ∧ i ≤ l.length ∧ ps.map (·.1) = l.take i ∧ LentAt w1 ao cap ps ∧ (∀ y ∈ LB ao ps, w.heap.size ≤ y) ∧ Chg [] w w1 ∧ Has a Tryd.f27.ntmps [(0, .slice aol l.length capl), (3, .slice ao ps.length cap), (4, .int .i64 (i : Int))]) l.length ?_ ?_
  · exact ⟨0, none, 0, [], rfl, Nat.zero_le _, rfl, ⟨Own.nil, (fun _ h => nomatch h), (fun _ h => nomatch h), (fun _ h => nomatch h)⟩, (fun _ h => nomatch h), Chg.refl _ _, ha.sel (by kernel_rfl)⟩
  rintro kk a w1 ⟨i, ao, cap, ps, rfl, hi, hps, hL, hge, hC, ha⟩
  refine wp_seq_k fun KA hKA => ?_
  refine wp_seq_k fun K2 hK2 => ?_
  refine wp_region_lit ?_
  refine seg ha 4 [(0, .slice aol l.length capl), (3, .slice ao ps.length cap), (4, .int .i64 (i : Int)), (8, .bool (decide ((i : Int) < (l.length : Int))))] (by kernel_rfl) fun a ha => ?_
  refine hK2 _ _ ?_; clear hK2 K2
  refine cnd ha rfl (fun h3 => ?_) (fun h3 => ?_)
  rotate_left
  · refine wp_exit ?_
    simp only [Exit.then, Exit.inBlock, ↓reduceIte, Nat.reduceEqDiff]
    have h3 : ¬ (i : Int) < l.length := of_decide_eq_false h3
    exact J _ _ ao cap ps (ha.sel (by kernel_rfl)) (by rw [hps, List.take_of_length_le (by omega)]) hL hge hC
  have h3 : (i : Int) < l.length := of_decide_eq_true h3
  have hil : i < l.length := by omega
  have epl : ps.length = i := by have := congrArg List.length hps; rw [List.length_map, List.length_take] at this; omega
  have hx := hv _ (List.getElem_mem hil)
  refine wp_skip ?_
  refine hKA _ _ ?_; clear hKA KA
  refine wp_seq_k fun KB hKB => ?_
  refine wp_block ?_
  obtain ⟨ge, oe, cs, heq, hn, hR, hE⟩ := RSl.elem f1 i hil
  obtain ⟨aov, capv, rfl, fv⟩ := rS_api_Raw.open hR
  have ha := ha.sel (env' := [(0, .slice aol l.length capl), (3, .slice ao ps.length cap), (4, .int .i64 (i : Int))]) (by kernel_rfl)
  refine drw (fun w' => Chg [] w w') (by kernel_rfl) fun w2 c2 _ => ?_
  have hS : Chg [] w w2 := hC.trans c2 (Ok.nil _ _)
  have hL := hL.chg c2 (fun _ _ h => nomatch h)
  have hgL : ∀ y ∈ LB ao ps, y < w2.heap.size := fun y hy => (List.mem_append.1 hy).elim (fun h => hL.row.lt y h) (fun h => by
    obtain ⟨p, hp, rfl⟩ := List.mem_map.1 h
    exact (hL.box p hp).lt)
  refine tkpz 0 0 (.slice ao ps.length cap) ha (s := hS) (q := fun a ha => ?_)
  refine tkpz 1 0 (.slice aol l.length capl) ha (s := hS) (q := fun a ha => ?_)
  refine tkpz 2 0 (.int .i64 (i : Int)) ha (s := hS) (q := fun a ha => ?_)
  refine tkz 3 ha (v := .pointer (some ⟨ge, oe + Int.toNat (i : Int) * rS_api_Raw.sz, none⟩)) (y := fun w' hs => ix_run (r := rS_api_Raw) (T := 61) ha (by kernel_rfl) (by kernel_rfl) (by rfl) (by rfl) heq (by omega) h3) (s := hS) (q := fun a ha => ?_)
  have eo : oe + Int.toNat (i : Int) * rS_api_Raw.sz = oe + i * 3 := by rw [Int.toNat_natCast]; rfl
  rw [eo] at ha
  refine tkpz 4 0 (.pointer (some ⟨ge, oe + i * 3 + 0, none⟩)) ha (s := hS) (q := fun a ha => ?_)
  refine tkz 5 ha (v := .int .i64 l[i].Flags) (y := fun w' hs => ld_run ha rfl (by kernel_rfl) (hs.keep (hE 0 (.int .i64 l[i].Flags) rfl))) (s := hS) (q := fun a ha => ?_)
  refine tkpz 6 0 (.slice aol l.length capl) ha (s := hS) (q := fun a ha => ?_)
  refine tkpz 7 0 (.int .i64 (i : Int)) ha (s := hS) (q := fun a ha => ?_)
  refine tkz 8 ha (v := .pointer (some ⟨ge, oe + Int.toNat (i : Int) * rS_api_Raw.sz, none⟩)) (y := fun w' hs => ix_run (r := rS_api_Raw) (T := 61) ha (by kernel_rfl) (by kernel_rfl) (by rfl) (by rfl) heq (by omega) h3) (s := hS) (q := fun a ha => ?_)
  rw [eo] at ha
  refine tkpz 9 0 (.pointer (some ⟨ge, oe + i * 3 + 1, none⟩)) ha (s := hS) (q := fun a ha => ?_)
  refine tkz 10 ha (v := .int .i64 l[i].Kind) (y := fun w' hs => ld_run ha rfl (by kernel_rfl) (hs.keep (hE 1 (.int .i64 l[i].Kind) rfl))) (s := hS) (q := fun a ha => ?_)
  refine tkpz 11 0 (.slice aol l.length capl) ha (s := hS) (q := fun a ha => ?_)
  refine tkpz 12 0 (.int .i64 (i : Int)) ha (s := hS) (q := fun a ha => ?_)
  refine tkz 13 ha (v := .pointer (some ⟨ge, oe + Int.toNat (i : Int) * rS_api_Raw.sz, none⟩)) (y := fun w' hs => ix_run (r := rS_api_Raw) (T := 61) ha (by kernel_rfl) (by kernel_rfl) (by rfl) (by rfl) heq (by omega) h3) (s := hS) (q := fun a ha => ?_)
  rw [eo] at ha
  refine tkpz 14 0 (.pointer (some ⟨ge, oe + i * 3 + 2, none⟩)) ha (s := hS) (q := fun a ha => ?_)
  refine tkz 15 ha (v := .slice aov l[i].Value.length capv) (y := fun w' hs => ld_run ha rfl (by kernel_rfl) (hs.keep (hE 2 (.slice aov l[i].Value.length capv) rfl))) (s := hS) (q := fun a ha => ?_)
  refine ac 16 (by kernel_rfl) (by rfl) fun K16 hK16 => ?_
  refine cl ha (by rfl) (by kernel_rfl) (by rfl) (by rfl) (by rfl) (Lent.go w2 [] (MS.nil _) l[i].Value aov capv (fv.chg hS (Ok.nil _ _) (Ok.nil _ _)) hx) ?_
  rintro _ w3 ⟨gv, rfl, hbv, hgv, c3, _⟩ a ha
  have hS3 := hS.trans c3 (Ok.nil _ _)
  have hL := hL.chg c3 (fun _ _ h => nomatch h)
  refine ae hK16 hS3 ?_; clear hK16 K16
  refine tkz 17 ha (v := .agg (eLent (l[i], gv)).toArray) (y := fun w' hs => opk_run ha rfl rfl (fun w => by kernel_rfl)) (s := hS3) (q := fun a ha => ?_)
  refine ac 18 (by kernel_rfl) (by rfl) fun K18 hK18 => ?_
  refine bslA (vals := [.agg (eLent (l[i], gv)).toArray]) (T := 61) (z := .agg (cS_api_Raw ⟨0, 0, []⟩ none 0).toArray) ha rfl (by kernel_rfl) rfl (by kernel_rfl) (s := 3) (by kernel_rfl) rfl rfl (fun w => by kernel_rfl) (by kernel_rfl) rfl rfl rfl fun a w4 gs N4 ha => ?_
  have hS4 := hS3.trans N4.chg (Ok.nil _ _)
  have hL := hL.chg N4.chg (fun _ _ h => nomatch h)
  have hbv := hbv.chg N4.chg (fun h => nomatch h)
  refine ae hK18 hS4 ?_; clear hK18 K18
  have hR4 : RSl rLent 61 w4 (blkL ao) (some ⟨gs, 0, none⟩) 1 [(l[i], gv)] := by
    have hb4 := N4.at_
    refine ⟨Nat.le_refl _, by rw [hmax]; decide, .inr ⟨gs, 0, _, (61, (0, 0)), rfl, fun h => ?_, hb4, (RL.flat fLent).2 ?_⟩⟩
    · have := hgL gs (List.mem_append_left _ h); have := N4.ge; have := c3.size; omega
    · rfl
  refine ac 19 (by kernel_rfl) (by rfl) fun K19 hK19 => ?_
  refine app (r := rLent) (xs := ps) (ys := [(l[i], gv)]) ha (ElemT.mk' (bytes := 40) (by kernel_rfl)) rfl rfl rfl rfl rfl hL.row hR4.src (by rw [List.length_singleton, epl]; omega) (by decide) fun a w5 ao5 cap5 hO5 c5 hok hlt ha => ?_
  have hS5 := hS4.trans c5 (fun y hy => .inr (hge y (List.mem_append_left _ hy)))
  refine ae hK19 hS5 ?_; clear hK19 K19
  refine tkpz 20 0 (.slice ao5 (ps ++ [(l[i], gv)]).length cap5) ha (s := hS5) (q := fun a ha => ?_)
  refine dn (by kernel_rfl) ?_
  have ha := ha.sel (env' := [(0, .slice aol l.length capl), (3, .slice ao5 (ps ++ [(l[i], gv)]).length cap5), (4, .int .i64 (i : Int))]) (by kernel_rfl)
  refine hKB _ _ ?_; clear hKB KB
  refine wp_region_lit ?_
  refine seg ha 3 [(0, .slice aol l.length capl), (3, .slice ao5 (ps ++ [(l[i], gv)]).length cap5), (4, .int .i64 (IntKind.i64.wrap ((i : Int) + 1)))] (by kernel_rfl) fun a ha => ?_
  have e : IntKind.i64.wrap ((i : Int) + 1) = ((i + 1 : Nat) : Int) := by rw [IntKind.wrap_i64]; omega
  rw [e] at ha
  have hgvn : gv ∉ blkL ao := fun h => by have := hgL gv (List.mem_append_left _ h); omega
  have hgv5 : ∀ y ∈ blkL ao5, y ∈ blkL ao ∨ w4.heap.size ≤ y := fun y hy => hok y hy
  have hgvl : gv < w4.heap.size := hbv.lt
  refine ⟨l.length - (i + 1), by omega, i + 1, ao5, cap5, ps ++ [(l[i], gv)], rfl, by omega, ?_, ⟨own_L hO5 (Chg.refl [] _) (fun _ _ h => nomatch h) (fun _ h => h), ?_, ?_, ?_⟩, ?_, hS5, ha⟩
  · rw [List.map_append, hps, List.take_add_one, List.getElem?_eq_getElem hil]; rfl
  · intro p hp
    rcases List.mem_append.1 hp with hp | hp
    · exact (hL.box p hp).chg c5 (hL.apart p hp)
    · rw [List.mem_singleton] at hp; subst hp
      exact hbv.chg c5 hgvn
  · intro p hp h
    rcases List.mem_append.1 hp with hp | hp
    · rcases hgv5 _ h with h | h
      · exact hL.apart p hp h
      · have := (hL.box p hp).lt; omega
    · rw [List.mem_singleton] at hp; subst hp
      rcases hgv5 _ h with h | h
      · exact hgvn h
      · omega
  · intro p hp
    rcases List.mem_append.1 hp with hp | hp
    · exact hL.small p hp
    · rw [List.mem_singleton] at hp; subst hp; exact hx
  · intro y hy
    have z1 := hC.size; have z2 := c2.size; have z3 := c3.size; have z4 := N4.chg.size
    rcases List.mem_append.1 hy with h | h
    · rcases hgv5 y h with h | h
      · exact hge y (List.mem_append_left _ h)
      · omega
    · obtain ⟨p, hp, rfl⟩ := List.mem_map.1 h
      rcases List.mem_append.1 hp with hp | hp
      · exact hge _ (List.mem_append_right _ (List.mem_map.2 ⟨p, hp, rfl⟩))
      · rw [List.mem_singleton] at hp; subst hp
        show w.heap.size ≤ gv
        omega
theorem box_same {w : World} {g : Nat} {cs ds : List Value} (h : Box w g cs) (h2 : Box w g ds) : cs = ds := by
  obtain ⟨T, h⟩ := h
  obtain ⟨T2, h2⟩ := h2
  rw [h] at h2
  have := Option.some.inj h2
  simp only [Obj.cells.injEq] at this
  simpa using congrArg Array.toList this.1
set_option maxRecDepth 100000 in
theorem spoil_walk (w : World) (ao : Option Addr) (cap : Nat) (ps : List (S_api_Raw × Nat)) (hL : LentAt w ao cap ps) (hn : ps.length ≤ 1000) :
    To Tryd.prog 31 [.slice ao ps.length cap] w fun v w' => v = .tuple #[] ∧ Chg (LB ao ps) w w' := by
  have hmax : maxLen = 9223372036854775807 := rfl
  have hin : ∀ p ∈ ps, p.2 ∈ LB ao ps := fun p hp => List.mem_append_right _ (List.mem_map.2 ⟨p, hp, rfl⟩)
  have hsame : ∀ p ∈ ps, ∀ q ∈ ps, p.2 = q.2 → p.1.Value.length = q.1.Value.length := fun p hp q hq e => by
    have h1 := hL.box p hp
    rw [e] at h1
    have := congrArg List.length (box_same h1 (hL.box q hq))
    simpa [bLent] using this
  refine ent Tryd.func31 rfl [(0, .slice ao ps.length cap)] rfl (by rfl) fun a ha => ?_
  refine wp_seq_k fun K hK => ?_
  refine wp_region_lit ?_
  refine seg ha 1 [(0, .slice ao ps.length cap), (2, .int .i64 ((0 : Nat) : Int))] (by kernel_rfl) fun a ha => ?_
  refine hK _ _ ?_; clear hK K
  refine wp_block ?_
  refine wp_loop_ghost (fun kk a w1 => ∃ i : Nat, kk = ps.length - i ∧ i ≤ ps.length ∧ (i < ps.length → ∃ g cs junk, ao = some ⟨g, 0, none⟩ ∧ BoxT 61 w1 g cs ∧ cs.length = cap * 3 ∧ cs.drop (i * 3) = (ps.drop i).flatMap eLent ++ junk) ∧ (∀ p ∈ ps, ∃ cur, Box w1 p.2 cur ∧ cur.length = p.1.Value.length + 1) ∧ Chg (LB ao ps) w w1 ∧ Has a Tryd.f31.ntmps [(0, .slice ao ps.length cap), (2, .int .i64 (i : Int))]) ps.length ?_ ?_
  · refine ⟨0, rfl, Nat.zero_le _, fun h => ?_, fun p hp => ⟨_, hL.box p hp, by simp [bLent]⟩, Chg.refl _ _, ha⟩
    rcases id hL.row with ⟨_, e, _⟩ | ⟨g, _, rfl, _⟩
    · rw [e] at h; simp at h
    · obtain ⟨junk, hB, hl, _⟩ := Own.raw fLent hL.row
      exact ⟨g, _, junk, rfl, hB, hl, by simp⟩
  rintro kk a w1 ⟨i, rfl, hi, hrow, hbox, hC, ha⟩
  refine wp_seq_k fun KA hKA => ?_
  refine wp_seq_k fun K2 hK2 => ?_
  refine wp_region_lit ?_
  refine seg ha 4 [(0, .slice ao ps.length cap), (2, .int .i64 (i : Int)), (6, .bool (decide ((i : Int) < (ps.length : Int))))] (by kernel_rfl) fun a ha => ?_
  refine hK2 _ _ ?_; clear hK2 K2
  refine cnd ha rfl (fun h3 => ?_) (fun h3 => ?_)
  rotate_left
  · refine wp_exit ?_
    simp only [Exit.then, Exit.inBlock, ↓reduceIte, Nat.reduceEqDiff]
    exact rt0 ha rfl ⟨rfl, hC⟩
  have h3 : (i : Int) < ps.length := of_decide_eq_true h3
  have hil : i < ps.length := by omega
  obtain ⟨g, cs, junk, rfl, hB, hcl, hdp⟩ := hrow hil
  have hm : ps[i] ∈ ps := List.getElem_mem hil
  have hcap : ps.length ≤ cap := by
    obtain ⟨_, _, _, h, _⟩ := Own.raw fLent hL.row
    exact h
  have hcm : cap ≤ maxLen := by
    obtain ⟨_, _, _, _, h, _⟩ := Own.raw fLent hL.row
    exact h
  have hap := hL.apart ps[i] hm
  have hgi : ps[i].2 ≠ g := fun e => hap (by simp [blkL, e])
  have hsm := hL.small ps[i] hm
  have ecell : cs[i * 3 + 2]? = some (.slice (some ⟨ps[i].2, 0, none⟩) ps[i].1.Value.length (ps[i].1.Value.length + 1)) := by
    have e := congrArg (fun l : List Value => l[2]?) hdp
    simp only [List.getElem?_drop] at e
    rw [e, List.drop_eq_getElem_cons hil, List.flatMap_cons]
    rfl
  refine wp_skip ?_
  refine hKA _ _ ?_; clear hKA KA
  refine wp_seq_k fun KB hKB => ?_
  refine wp_block ?_
  refine wp_seq_k fun K2 hK2 => ?_
  refine wp_region_lit ?_
  refine seg ha 2 [(0, .slice (some ⟨g, 0, none⟩) ps.length cap), (2, .int .i64 (i : Int)), (9, .slice (some ⟨g, 0, none⟩) ps.length cap), (10, .int .i64 (i : Int))] (by kernel_rfl) fun a ha => ?_
  refine hop (w' := w1) ha rfl rfl rfl (ix_run (r := rLent) (T := 61) (xs := ps) (k := .i64) (i := (i : Int)) ha (by kernel_rfl) (by kernel_rfl) (by rfl) (by rfl) rfl (by omega) h3) fun a ha => ?_
  have eo : (0 + Int.toNat (i : Int) * rLent.sz) = i * 3 := by rw [Int.toNat_natCast, Nat.zero_add]; rfl
  rw [eo] at ha
  refine seg ha 1 [(0, .slice (some ⟨g, 0, none⟩) ps.length cap), (2, .int .i64 (i : Int)), (12, .pointer (some ⟨g, i * 3 + 2, none⟩))] (by kernel_rfl) fun a ha => ?_
  refine ld (v := .slice (some ⟨ps[i].2, 0, none⟩) ps[i].1.Value.length (ps[i].1.Value.length + 1)) ha rfl (by kernel_rfl) rfl rfl rfl (hB.cell ecell) fun a ha => ?_
  refine bsl (vals := [.slice (some ⟨ps[i].2, 0, none⟩) ps[i].1.Value.length (ps[i].1.Value.length + 1)]) (T := 25) ha rfl [.slice (some ⟨ps[i].2, 0, none⟩) ps[i].1.Value.length (ps[i].1.Value.length + 1)] (fun w => by kernel_rfl) rfl rfl rfl fun a w2 gr N2 ha => ?_
  have hB := hB.chg N2.chg (fun h => nomatch h)
  have hC := hC.trans N2.chg (Ok.nil _ _)
  have hbox : ∀ p ∈ ps, ∃ cur, Box w2 p.2 cur ∧ cur.length = p.1.Value.length + 1 := fun p hp => by
    obtain ⟨cur, h1, h2⟩ := hbox p hp
    exact ⟨cur, h1.chg N2.chg (fun h => nomatch h), h2⟩
  have hgr : gr ≠ ps[i].2 := fun e => by
    obtain ⟨cur, h1, _⟩ := hL.box ps[i] hm |> fun h => (⟨_, h, rfl⟩ : ∃ cur, Box w ps[i].2 cur ∧ cur = _)
    have := h1.lt; have := N2.idx; have h9 := hC.size
    have h10 := N2.chg.size
    have : w.heap.size ≤ w1.heap.size := by
      have := hC.size
      exact Nat.le_of_not_lt fun hh => by
        have := (‹Chg (LB (some ⟨g, 0, none⟩) ps) w w1›).size; omega
    omega
  have hRows : Rows w2 gr [⟨some ps[i].2, ps[i].1.Value.length, ps[i].1.Value.length + 1⟩] := ⟨N2.box, fun r hr => by
      rw [List.mem_singleton] at hr; subst hr
      exact ⟨Nat.le_succ _, by rw [hmax]; show ps[i].1.Value.length + 1 ≤ _; omega, fun h => nomatch h⟩, fun x y rx ry gg h1 h2 _ _ => by
      cases x with
      | zero => cases y with
        | zero => rfl
        | succ y => simp at h2
      | succ x => simp at h1, fun r hr => by
      rw [List.mem_singleton] at hr; subst hr
      exact fun h => hgr (Option.some.inj h).symm⟩
  have hCells : Cells w2 [⟨some ps[i].2, ps[i].1.Value.length, ps[i].1.Value.length + 1⟩] (fun _ _ => True) := fun x r gg h1 h2 => by
    cases x with
    | zero =>
      simp at h1; subst h1
      obtain rfl := Option.some.inj h2
      obtain ⟨cur, q1, q2⟩ := hbox ps[i] hm
      exact ⟨cur, q1, q2, trivial⟩
    | succ x => simp at h1
  refine cl ha (by rfl) (by kernel_rfl) (by rfl) (by rfl) (by rfl) (Owned.go w2 [] (MS.nil _) gr [⟨some ps[i].2, ps[i].1.Value.length, ps[i].1.Value.length + 1⟩] hRows (by simp) hCells) ?_
  rintro _ w3 ⟨rfl, c3, _, hC3⟩ a ha
  have c3 : Chg [ps[i].2] w2 w3 := c3
  have hB := hB.chg c3 (by simp [Ne.symm hgi])
  have hC := hC.trans c3 (Ok.one (.inl (hin _ hm)))
  have hbox : ∀ p ∈ ps, ∃ cur, Box w3 p.2 cur ∧ cur.length = p.1.Value.length + 1 := fun p hp => by
    by_cases e : p.2 = ps[i].2
    · obtain ⟨cur, q1, q2, _⟩ := hC3 0 _ ps[i].2 rfl rfl
      exact ⟨cur, by rw [e]; exact q1, by rw [q2, hsame p hp _ hm e]⟩
    · obtain ⟨cur, h1, h2⟩ := hbox p hp
      exact ⟨cur, h1.chg c3 (by simp [e]), h2⟩
  refine wpl_end ?_
  have ha := ha.sel (env' := [(0, .slice (some ⟨g, 0, none⟩) ps.length cap), (2, .int .i64 (i : Int))]) (by kernel_rfl)
  refine hK2 _ _ ?_; clear hK2 K2
  refine wp_region_lit ?_
  refine seg ha 2 [(0, .slice (some ⟨g, 0, none⟩) ps.length cap), (2, .int .i64 (i : Int)), (16, .slice (some ⟨g, 0, none⟩) ps.length cap), (17, .int .i64 (i : Int))] (by kernel_rfl) fun a ha => ?_
  refine opk (v := .agg (cS_api_Raw ⟨0, -7, []⟩ none 0).toArray) ha rfl rfl rfl rfl rfl (fun w => by kernel_rfl) fun a ha => ?_
  refine hop (w' := w3) ha rfl rfl rfl (ix_run (r := rLent) (T := 61) (xs := ps) (k := .i64) (i := (i : Int)) ha (by kernel_rfl) (by kernel_rfl) (by rfl) (by rfl) rfl (by omega) h3) fun a ha => ?_
  rw [eo] at ha
  refine stAT (l := cS_api_Raw ⟨0, -7, []⟩ none 0) (o' := i * 3) ha rfl rfl rfl (by kernel_rfl) rfl rfl hB (Nat.ble_eq_true_of_le (by show i * 3 + 3 ≤ cs.length; omega)) fun a w4 ha hb4 c4 _ => ?_
  have hC := hC.trans c4 (Ok.one (.inl (List.mem_append_left _ (by simp [blkL]))))
  refine wpl_end ?_
  have ha := ha.sel (env' := [(0, .slice (some ⟨g, 0, none⟩) ps.length cap), (2, .int .i64 (i : Int))]) (by kernel_rfl)
  refine hKB _ _ ?_; clear hKB KB
  refine wp_region_lit ?_
  refine seg ha 3 [(0, .slice (some ⟨g, 0, none⟩) ps.length cap), (2, .int .i64 (IntKind.i64.wrap ((i : Int) + 1)))] (by kernel_rfl) fun a ha => ?_
  have e : IntKind.i64.wrap ((i : Int) + 1) = ((i + 1 : Nat) : Int) := by rw [IntKind.wrap_i64]; omega
  rw [e] at ha
  refine ⟨ps.length - (i + 1), by omega, i + 1, rfl, by omega, fun h => ⟨g, _, junk, rfl, hb4, ?_, ?_⟩, fun p hp => ?_, hC, ha⟩
  · rw [List.length_append, List.length_append, List.length_take, List.length_drop]
    show min (i * 3) cs.length + 3 + (cs.length - (i * 3 + 3)) = _
    omega
  · have e5 : (cs.take (i * 3) ++ cS_api_Raw ⟨0, -7, []⟩ none 0 ++ cs.drop (i * 3 + (cS_api_Raw ⟨0, -7, []⟩ none 0).length)).drop ((i + 1) * 3) = cs.drop ((i + 1) * 3) := by
      rw [List.drop_left' (by rw [List.length_append, List.length_take]; show min (i * 3) cs.length + 3 = _; omega)]
      show cs.drop (i * 3 + 3) = _
      rw [show i * 3 + 3 = (i + 1) * 3 by omega]
    rw [e5]
    have e6 := congrArg (List.drop 3) hdp
    rw [List.drop_drop, List.drop_eq_getElem_cons hil, List.flatMap_cons] at e6
    rw [show (i + 1) * 3 = i * 3 + 3 by omega, e6]
    rfl
  · obtain ⟨cur, q1, q2⟩ := hbox p hp
    exact ⟨cur, q1.chg c4 (fun h => by rw [List.mem_singleton] at h; exact hL.apart p hp (by simp [blkL, h])), q2⟩
theorem LentAt.rd {w : World} {ao : Option Addr} {cap : Nat} {ps : List (S_api_Raw × Nat)} {r : List S_api_Raw} (h : LentAt w ao cap ps) (e : ps.map (·.1) = r) (M : List Nat) (hM : ∀ y ∈ LB ao ps, y ∈ M → False) : RSl rS_api_Raw 61 w M ao cap r := e ▸ h.rsl M fun y hy hm => hM y hy hm
theorem vinerylaw09_lent.walk (w : World) (M : List Nat) (hM : MS M w) (l : List S_api_Raw) (aol : Option Addr) (capl : Nat) (f1 : RSl rS_api_Raw 61 w M aol capl l) (r : List S_api_Raw) (H : vinerylaw09_lent.f l = some r) :
    To Tryd.prog 27 [.slice aol l.length capl] w fun v w' => ∃ (ao : Option Addr) (cap : Nat) (ps : List (S_api_Raw × Nat)), v = .slice ao r.length cap ∧ ps.map (·.1) = r ∧ LentAt w' ao cap ps ∧ (∀ y ∈ LB ao ps, w.heap.size ≤ y) ∧ Chg [] w w' ∧ MS (LB ao ps ++ M) w' := by
  unfold vinerylaw09_lent.f at H
  obtain ⟨⟨h1, h2⟩, H⟩ := ite_some H
  obtain rfl := Option.some.inj H
  refine (lentr_walk w M hM l aol capl f1 h1 (fun x hx => of_decide_eq_true (List.all_eq_true.1 h2 x hx))).mono ?_
  rintro v w' ⟨ao, cap, ps, rfl, e, hL, hge, hc⟩
  refine ⟨ao, cap, ps, rfl, e, hL, hge, hc, MS.app (fun y hy => ?_) (hM.chg hc)⟩
  rcases List.mem_append.1 hy with h | h
  · exact hL.row.lt y h
  · obtain ⟨p, hp, rfl⟩ := List.mem_map.1 h
    exact (hL.box p hp).lt
def vinerylaw09_spoil.f (l : List S_api_Raw) : Option Unit := if l.length ≤ 1000 then some () else none
theorem vinerylaw09_spoil.walk (w : World) (M : List Nat) (hM : MS M w) (ao : Option Addr) (cap : Nat) (ps : List (S_api_Raw × Nat)) (r : List S_api_Raw) (e : ps.map (·.1) = r) (h : LentAt w ao cap ps) (H : vinerylaw09_spoil.f r = some ()) :
    To Tryd.prog 31 [.slice ao r.length cap] w fun v w' => v = .tuple #[] ∧ Chg (LB ao ps) w w' ∧ MS M w' := by
  unfold vinerylaw09_spoil.f at H
  obtain ⟨h1, _⟩ := ite_some H
  have el : ps.length = r.length := by rw [← e, List.length_map]
  have := spoil_walk w ao cap ps h (by omega)
  rw [el] at this
  exact this.mono fun v w' ⟨h1, h2⟩ => ⟨h1, h2, hM.chg h2⟩

def cursor_Put.l0 (a1 : Int) : Nat → (List Int) → Int → Option (List Int)
  | 0, _, _ => none
  | kk + 1, x20, x21 => (if (decide (x21 ≥ (0 : Int))) = true then (if 0 ≤ x21 then (if (x20.length + ([IntKind.u8.wrap (Int.fdiv a1 (2 ^ (min (Int.toNat x21) IntKind.i64.bits)))] : List Int).length) * 1 ≤ 140737488355328 then cursor_Put.l0 a1 kk (x20 ++ ([IntKind.u8.wrap (Int.fdiv a1 (2 ^ (min (Int.toNat x21) IntKind.i64.bits)))] : List Int)) (IntKind.i64.wrap (x21 - (8 : Int))) else none) else none) else some (x20 : List Int))
def cursor_Put.f (k : Nat) (a0 : List Int) (a1 : Int) (a2 : Int) : Option (List Int × Int) := (if (if (decide (a2 < (1 : Int))) = true then true else (decide (a2 > (4 : Int)))) = true then some ((([] : List Int) : List Int), ((1 : Int) : Int)) else ((if (decide (a1 < (0 : Int))) = true then some (true : Bool) else (if 0 ≤ (IntKind.i64.wrap ((8 : Int) * a2)) then some ((Int.fdiv a1 (2 ^ (min (Int.toNat (IntKind.i64.wrap ((8 : Int) * a2))) IntKind.i64.bits))) != (0 : Int) : Bool) else none))).bind fun s9 => (if s9 = true then some ((([] : List Int) : List Int), ((5 : Int) : Int)) else (bytes_Clone.f a0).bind fun t14 => (cursor_Put.l0 a1 k t14 (IntKind.i64.wrap ((8 : Int) * (IntKind.i64.wrap (a2 - (1 : Int)))))).bind fun s18 => some ((s18 : List Int), ((0 : Int) : Int))))
set_option maxRecDepth 100000 in
theorem cursor_Put.walk (w : World) (M : List Nat) (hM : MS M w) (a0 : List Int) (ao1 : Option Addr) (cap1 : Nat) (f1 : RSl (rInt .u8) 5 w M ao1 cap1 a0) (a1 : Int) (a2 : Int) (k : Nat) (r : List Int × Int) (H : cursor_Put.f k a0 a1 a2 = some r) :
    To Tryd.prog 59 [.slice ao1 a0.length cap1, .int .i64 a1, .int .i64 a2] w fun v w' => ∃ (ao39 : Option Addr) (cap39 : Nat), v = .tuple #[.slice ao39 r.1.length cap39, .int .i64 r.2] ∧ (Own (rInt .u8) 5 w' (blkL ao39 ++ (M)) ao39 cap39 r.1) ∧ (∀ x ∈ blkL ao39, w.heap.size ≤ x) ∧ Chg [] w w' ∧ MS (blkL ao39 ++ (M)) w' := by
 unfold cursor_Put.f at H
 refine ent Tryd.func59 rfl [(0, .slice ao1 a0.length cap1), (1, .int .i64 a1), (2, .int .i64 a2)] rfl (by rfl) fun a ha => ?_
 have hC : Chg [] w w := Chg.refl _ _
 refine wp_seq_k fun K2 hK2 => ?_
 refine wp_region_lit ?_
 refine seg ha 2 [(0, .slice ao1 a0.length cap1), (1, .int .i64 a1), (2, .int .i64 a2)] (by kernel_rfl) fun a ha => ?_
 refine hK2 _ _ ?_; try clear hK2 K2
 refine wp_seq_k fun K3 hK3 => ?_
 refine wp_block ?_
 refine wp_seq_k fun K4 hK4 => ?_
 refine wp_region_lit ?_
 refine seg ha 7 [(0, .slice ao1 a0.length cap1), (1, .int .i64 a1), (2, .int .i64 a2), (10, .bool (if (decide (a2 < (1 : Int))) = true then true else (decide (a2 > (4 : Int)))))] (by kernel_rfl) fun a ha => ?_
 refine hK4 _ _ ?_; try clear hK4 K4
 refine cnd ha rfl (fun hc5 => ?_) (fun hc5 => ?_)
 ·have H := ite_t hc5 H
  refine wp_seq_k fun K6 hK6 => ?_
  refine wp_region_lit ?_
  refine seg ha 2 [(6, .slice none 0 0), (7, .int .i64 (1 : Int))] (by kernel_rfl) fun a ha => ?_
  refine hK6 _ _ ?_; try clear hK6 K6
  refine wp_ret ?_
  try simp only [Exit.then, Exit.inBlock]
  have p_z7_M : ∀ x ∈ blkL none, x ∉ M := fun x hx hy => absurd (hM x (hy)) (Nat.not_lt.2 ((fun _ h => nomatch h) x hx))
  have e_z7 : ∀ x ∈ blkL none, w.heap.size ≤ x := fun x hx => Nat.le_trans hC.size ((fun _ h => nomatch h) x hx)
  have hM : MS (blkL none ++ (M)) w := (MS.app (fun _ h => nomatch h) (hM.chg (Chg.refl [] _)))
  obtain rfl := Option.some.inj H
  refine rt2 ha rfl rfl rfl ?_
  exact ⟨none, 0, rfl, Own.nil, e_z7, hC, hM⟩
 ·have H := ite_f hc5 H
  refine wp_seq_k fun K8 hK8 => ?_
  refine wp_region_lit ?_
  obtain ⟨s9, H9, H⟩ := bind_some H
  have J9 : ∀ (a : Act) (w9 : World), Has a Tryd.f59.ntmps [(0, .slice ao1 a0.length cap1), (1, .int .i64 a1), (2, .int .i64 a2), (17, .bool s9)] → (RSl (rInt .u8) 5 w9 (M) ao1 cap1 a0) → (Chg [] w w9) → (MS (M) w9) → K8 a w9 := by
   intro a w9 ha f1 hC hM
   refine hK8 _ _ ?_; try clear hK8 K8
   refine cnd ha rfl (fun hc10 => ?_) (fun hc10 => ?_)
   ·have H := ite_t hc10 H
    refine wp_seq_k fun K11 hK11 => ?_
    refine wp_region_lit ?_
    refine seg ha 2 [(6, .slice none 0 0), (7, .int .i64 (5 : Int))] (by kernel_rfl) fun a ha => ?_
    refine hK11 _ _ ?_; try clear hK11 K11
    refine wp_ret ?_
    try simp only [Exit.then, Exit.inBlock]
    have p_z12_M : ∀ x ∈ blkL none, x ∉ M := fun x hx hy => absurd (hM x (hy)) (Nat.not_lt.2 ((fun _ h => nomatch h) x hx))
    have e_z12 : ∀ x ∈ blkL none, w.heap.size ≤ x := fun x hx => Nat.le_trans hC.size ((fun _ h => nomatch h) x hx)
    have hM : MS (blkL none ++ (M)) w9 := (MS.app (fun _ h => nomatch h) (hM.chg (Chg.refl [] _)))
    obtain rfl := Option.some.inj H
    refine rt2 ha rfl rfl rfl ?_
    exact ⟨none, 0, rfl, Own.nil, e_z12, hC, hM⟩
   ·have H := ite_f hc10 H
    refine wp_skip ?_
    refine hK3 _ _ ?_; try clear hK3 K3
    refine wp_seq_k fun K13 hK13 => ?_
    refine wp_region_lit ?_
    refine seg ha 1 [(1, .int .i64 a1), (2, .int .i64 a2), (27, .slice ao1 a0.length cap1)] (by kernel_rfl) fun a ha => ?_
    obtain ⟨t14, H14, H⟩ := bind_some H
    refine cl ha (by rfl) (by kernel_rfl) (by rfl) (by rfl) (by rfl) (bytes_Clone.walk w9 _ hM a0 ao1 cap1 f1 _ H14) ?_
    rintro _ w14 ⟨ao15, cap15, rfl, f15, ne_i15, hc14, hMn⟩ a ha
    have o1 : Ok [] (M) w9.heap.size := Ok.nil _ _
    have o2 : Ok (blkL ao15 ++ (M)) (M) w9.heap.size := (Ok.app (fun x h => .inr (ne_i15 x h)) (Ok.refl _ _))
    have f1 := f1.chg hc14 o1 o2
    have p_i15_M : ∀ x ∈ blkL ao15, x ∉ M := fun x hx hy => absurd (hM x (hy)) (Nat.not_lt.2 (ne_i15 x hx))
    have e_i15 : ∀ x ∈ blkL ao15, w.heap.size ≤ x := fun x hx => Nat.le_trans hC.size (ne_i15 x hx)
    have hM : MS (blkL ao15 ++ (M)) w14 := (MS.app (fun x h => hMn x (ml h)) (hM.chg hc14))
    have hC := hC.trans hc14 (Ok.nil _ _)
    refine seg ha 1 [(1, .int .i64 a1), (2, .int .i64 a2), (8, .slice ao15 t14.length cap15)] (by kernel_rfl) fun a ha => ?_
    refine hK13 _ _ ?_; try clear hK13 K13
    refine wp_seq_k fun K16 hK16 => ?_
    refine wp_seq_k fun K17 hK17 => ?_
    refine wp_region_lit ?_
    refine seg ha 4 [(1, .int .i64 a1), (8, .slice ao15 t14.length cap15), (9, .int .i64 (IntKind.i64.wrap ((8 : Int) * (IntKind.i64.wrap (a2 - (1 : Int))))))] (by kernel_rfl) fun a ha => ?_
    refine hK17 _ _ ?_; try clear hK17 K17
    refine wp_block ?_
    obtain ⟨s18, H18, H⟩ := bind_some H
    have J18 : ∀ (a : Act) (wx18 : World) (ao22 : Option Addr) (cap22 : Nat), Has a Tryd.f59.ntmps [(8, .slice ao22 s18.length cap22)] → (Own (rInt .u8) 5 wx18 (blkL ao22 ++ (M)) ao22 cap22 s18) → (∀ x ∈ blkL ao22, w.heap.size ≤ x) → (∀ x ∈ blkL ao22, x ∉ M) → (Chg [] w wx18) → (MS (blkL ao22 ++ (M)) wx18) → K16 a wx18 := by
     intro a wx18 ao22 cap22 ha f22 e_i22 p_i22_M hC hM
     refine hK16 _ _ ?_; try clear hK16 K16
     refine wp_seq_k fun K23 hK23 => ?_
     refine wp_region_lit ?_
     refine seg ha 3 [(6, .slice ao22 s18.length cap22), (7, .int .i64 (0 : Int))] (by kernel_rfl) fun a ha => ?_
     refine hK23 _ _ ?_; try clear hK23 K23
     refine wp_ret ?_
     try simp only [Exit.then, Exit.inBlock]
     obtain rfl := Option.some.inj H
     refine rt2 ha rfl rfl rfl ?_
     exact ⟨ao22, cap22, rfl, f22, e_i22, hC, hM⟩
    have Hc18 := H
    have H := H18
    refine wp_loop_ghost (fun kk a w18 => ∃ (x20 : List Int) (x21 : Int) (ao19 : Option Addr) (cap19 : Nat), cursor_Put.l0 a1 kk x20 x21 = some s18 ∧ Has a Tryd.f59.ntmps [(1, .int .i64 a1), (8, .slice ao19 x20.length cap19), (9, .int .i64 x21)] ∧ (Own (rInt .u8) 5 w18 (blkL ao19 ++ (M)) ao19 cap19 x20) ∧ (∀ x ∈ blkL ao19, w.heap.size ≤ x) ∧ (∀ x ∈ blkL ao19, x ∉ M) ∧ (Chg [] w w18) ∧ (MS (blkL ao19 ++ (M)) w18)) k ?_ ?_
    ·skip
     exact ⟨t14, IntKind.i64.wrap ((8 : Int) * (IntKind.i64.wrap (a2 - (1 : Int)))), ao15, cap15, H, (ha.sel (by kernel_rfl)), f15, e_i15, p_i15_M, hC, hM⟩
    ·rintro kk a w18 ⟨x20, x21, ao19, cap19, H, ha, f19, e_i19, p_i19_M, hC, hM⟩
     obtain _ | kk := kk
     ·exact nomatch (show none = some _ from H)
     rw [cursor_Put.l0] at H
     refine wp_seq_k fun K24 hK24 => ?_
     refine wp_seq_k fun K25 hK25 => ?_
     refine wp_region_lit ?_
     refine seg ha 2 [(1, .int .i64 a1), (8, .slice ao19 x20.length cap19), (9, .int .i64 x21), (33, .bool (decide (x21 ≥ (0 : Int))))] (by kernel_rfl) fun a ha => ?_
     refine hK25 _ _ ?_; try clear hK25 K25
     refine cnd ha rfl (fun hc26 => ?_) (fun hc26 => ?_)
     ·have H := ite_t hc26 H
      refine wp_skip ?_
      refine hK24 _ _ ?_; try clear hK24 K24
      refine wp_seq_k fun K27 hK27 => ?_
      refine wp_block ?_
      refine wp_region_lit ?_
      refine seg ha 3 [(1, .int .i64 a1), (9, .int .i64 x21), (36, .slice ao19 x20.length cap19), (37, .int .i64 a1), (38, .int .i64 x21)] (by kernel_rfl) fun a ha => ?_
      obtain ⟨hx28, H⟩ := ite_some H
      refine hop (v := .int .i64 (Int.fdiv a1 (2 ^ (min (Int.toNat x21) IntKind.i64.bits)))) (w' := w18) ha rfl rfl rfl (shr_run ha (by rfl) (by rfl) hx28 _) fun a ha => ?_
      refine seg ha 1 [(1, .int .i64 a1), (9, .int .i64 x21), (36, .slice ao19 x20.length cap19), (40, .int .u8 (IntKind.u8.wrap (Int.fdiv a1 (2 ^ (min (Int.toNat x21) IntKind.i64.bits)))))] (by kernel_rfl) fun a ha => ?_
      refine bsl (vals := ([.int .u8 (IntKind.u8.wrap (Int.fdiv a1 (2 ^ (min (Int.toNat x21) IntKind.i64.bits))))] : List Value)) (T := 5) ha rfl (([.int .u8 (IntKind.u8.wrap (Int.fdiv a1 (2 ^ (min (Int.toNat x21) IntKind.i64.bits))))] : List Value) ++ ([] : List Value)) (fun w => by kernel_rfl) rfl rfl rfl fun a w29 g30 hN31 ha => ?_
      have o1 : Ok [] (blkL ao19 ++ (M)) w18.heap.size := Ok.nil _ _
      have o2 : Ok ([g30] ++ (blkL ao19 ++ (M))) (blkL ao19 ++ (M)) w18.heap.size := (Ok.app (hN31.ok _) (Ok.refl _ _))
      have f19 := f19.chg hN31.chg o1 o2 (fun _ _ h => nomatch h) (fun _ h => mr (ml h))
      have p_i32_i19 : ∀ x ∈ [g30], x ∉ (blkL ao19) := fun x hx hy => absurd (hM x (ml hy)) (Nat.not_lt.2 ((hN31.ge1) x hx))
      have p_i32_M : ∀ x ∈ [g30], x ∉ M := fun x hx hy => absurd (hM x (mr (hy))) (Nat.not_lt.2 ((hN31.ge1) x hx))
      have e_i32 : ∀ x ∈ [g30], w.heap.size ≤ x := fun x hx => Nat.le_trans hC.size ((hN31.ge1) x hx)
      have hM : MS ([g30] ++ (blkL ao19 ++ (M))) w29 := (MS.app hN31.ms (hM.chg hN31.chg))
      have hC := hC.trans hN31.chg (Ok.nil _ _)
      have f33 : Own (rInt .u8) 5 w29 ([g30] ++ (blkL ao19 ++ (M))) (some ⟨g30, 0, none⟩) 1 ([IntKind.u8.wrap (Int.fdiv a1 (2 ^ (min (Int.toNat x21) IntKind.i64.bits)))] : List Int) := hN31.own ⟨([.int .u8 (IntKind.u8.wrap (Int.fdiv a1 (2 ^ (min (Int.toNat x21) IntKind.i64.bits))))] : List Value), _, rfl, rfl, rfl⟩ (Nat.le_of_ble_eq_true rfl)
      obtain ⟨hx34, H⟩ := ite_some H
      refine app (r := (rInt .u8)) (xs := x20) (ys := ([IntKind.u8.wrap (Int.fdiv a1 (2 ^ (min (Int.toNat x21) IntKind.i64.bits)))] : List Int)) ha (ElemT.mk' (bytes := 1) (by kernel_rfl)) rfl rfl rfl rfl rfl f19 f33.src hx34 (by decide) fun a w35 ao36 cap36 hO36 hc36 hk36 hl36 ha => ?_
      have o1 : Ok (blkL ao19) ([g30] ++ (blkL ao19 ++ (M))) w29.heap.size := (fun _ h => .inl (mr (ml h)))
      have o2 : Ok (blkL ao36 ++ ([g30] ++ (M))) ([g30] ++ (blkL ao19 ++ (M))) w29.heap.size := (Ok.app (Ok.to hk36 (fun _ h => mr (ml h))) (Ok.app (fun _ h => .inl (ml h)) (fun _ h => .inl (mr (mr (h))))))
      have f33 := f33.chg hc36 o1 o2 p_i32_i19 (fun _ h => mr (ml h))
      have p_i36_i32 : ∀ x ∈ blkL ao36, x ∉ ([g30]) := fun x hx hy => (hk36 x hx).elim (fun h => (fun x hx hy => p_i32_i19 x hy hx) x h hy) (fun h => absurd (hM x (ml hy)) (Nat.not_lt.2 h))
      have p_i36_M : ∀ x ∈ blkL ao36, x ∉ M := fun x hx hy => (hk36 x hx).elim (fun h => p_i19_M x h hy) (fun h => absurd (hM x (mr (mr (hy)))) (Nat.not_lt.2 h))
      have e_i36 : ∀ x ∈ blkL ao36, w.heap.size ≤ x := fun x hx => (hk36 x hx).elim (e_i19 x) (Nat.le_trans hC.size)
      have hM : MS (blkL ao36 ++ ([g30] ++ (M))) w35 := (MS.app hl36 (MS.app (fun x h => hM.chg hc36 x (ml h)) (fun x h => hM.chg hc36 x (mr (mr (h))))))
      have hC := hC.trans hc36 (fun x h => .inr (e_i19 x h))
      have f36 := hO36.chg (M' := blkL ao36 ++ ([g30] ++ (M))) (Chg.refl [] _) (Ok.nil _ _) (Ok.app (fun _ h => .inl (ml h)) (Ok.to (Ok.app (fun _ h => .inl (ml h)) (fun _ h => .inl (mr (mr (h))))) (fun _ h => mr h))) (fun _ _ h => nomatch h) (fun _ h => ml h)
      refine seg ha 1 [(1, .int .i64 a1), (8, .slice ao36 (x20 ++ ([IntKind.u8.wrap (Int.fdiv a1 (2 ^ (min (Int.toNat x21) IntKind.i64.bits)))] : List Int)).length cap36), (9, .int .i64 x21)] (by kernel_rfl) fun a ha => ?_
      refine hK27 _ _ ?_; try clear hK27 K27
      refine wp_region_lit ?_
      refine seg ha 3 [(1, .int .i64 a1), (8, .slice ao36 (x20 ++ ([IntKind.u8.wrap (Int.fdiv a1 (2 ^ (min (Int.toNat x21) IntKind.i64.bits)))] : List Int)).length cap36), (9, .int .i64 (IntKind.i64.wrap (x21 - (8 : Int))))] (by kernel_rfl) fun a ha => ?_
      have o1 : Ok [] (blkL ao36 ++ ([g30] ++ (M))) w35.heap.size := Ok.nil _ _
      have o2 : Ok (blkL ao36 ++ (M)) (blkL ao36 ++ ([g30] ++ (M))) w35.heap.size := (Ok.app (fun _ h => .inl (ml h)) (fun _ h => .inl (mr (mr (h)))))
      have f36 := f36.chg (Chg.refl [] _) o1 o2 (fun _ _ h => nomatch h) (fun _ h => ml h)
      have hM : MS (blkL ao36 ++ (M)) w35 := (MS.app (fun x h => hM.chg (Chg.refl [] _) x (ml h)) (fun x h => hM.chg (Chg.refl [] _) x (mr (mr (h)))))
      exact ⟨kk, Nat.lt_succ_self _, ⟨(x20 ++ ([IntKind.u8.wrap (Int.fdiv a1 (2 ^ (min (Int.toNat x21) IntKind.i64.bits)))] : List Int)), IntKind.i64.wrap (x21 - (8 : Int)), ao36, cap36, H, (ha.sel (by kernel_rfl)), f36, e_i36, p_i36_M, hC, hM⟩⟩
     ·have H := ite_f hc26 H
      refine wp_exit ?_
      simp only [Exit.then, Exit.inBlock, ↓reduceIte, Nat.reduceEqDiff]
      obtain rfl := Option.some.inj H
      exact J18 _ _ ao19 cap19 (ha.sel (by kernel_rfl)) f19 e_i19 p_i19_M hC hM
  have H := H9
  refine seg ha 3 [(20, .bool (decide (a1 < (0 : Int)))), (0, .slice ao1 a0.length cap1), (1, .int .i64 a1), (2, .int .i64 a2)] (by kernel_rfl) fun a ha => ?_
  rcases Bool.eq_false_or_eq_true (decide (a1 < (0 : Int))) with hb37 | hb37
  ·have ha := ha.lit hb37
   have H := ite_t hb37 H
   refine sgh ha 7 [1, 1, 1, 1, 1, 3, 0] [(0, .slice ao1 a0.length cap1), (1, .int .i64 a1), (2, .int .i64 a2), (17, .bool true)] (by kernel_rfl) fun a ha => ?_
   obtain rfl := Option.some.inj H
   exact J9 _ _ (ha.sel (by kernel_rfl)) f1 hC hM
  ·have ha := ha.lit hb37
   have H := ite_f hb37 H
   refine sgh ha 3 [2, 2, 2] [(0, .slice ao1 a0.length cap1), (1, .int .i64 a1), (2, .int .i64 a2), (20, .bool false), (21, .int .i64 a1), (23, .int .i64 (IntKind.i64.wrap ((8 : Int) * a2)))] (by kernel_rfl) fun a ha => ?_
   obtain ⟨hx38, H⟩ := ite_some H
   refine hop (v := .int .i64 (Int.fdiv a1 (2 ^ (min (Int.toNat (IntKind.i64.wrap ((8 : Int) * a2))) IntKind.i64.bits)))) (w' := w) ha rfl rfl rfl (shr_run ha (by rfl) (by rfl) hx38 _) fun a ha => ?_
   refine sgh ha 3 [2, 4, 0] [(0, .slice ao1 a0.length cap1), (1, .int .i64 a1), (2, .int .i64 a2), (17, .bool ((Int.fdiv a1 (2 ^ (min (Int.toNat (IntKind.i64.wrap ((8 : Int) * a2))) IntKind.i64.bits))) != (0 : Int)))] (by kernel_rfl) fun a ha => ?_
   obtain rfl := Option.some.inj H
   exact J9 _ _ (ha.sel (by kernel_rfl)) f1 hC hM
def attr_Join.l0 (k : Nat) (a0 : List S_api_Raw) : Nat → (List Int) → Int → Option ((List Int × Int) ⊕ (List Int))
  | 0, _, _ => none
  | kk + 1, x13, x14 => (if (decide (x14 < (a0.length : Int))) = true then (if 0 ≤ x14 ∧ x14 < (a0.length : Int) then ((if (decide (((rd a0 x14).Flags) < (0 : Int))) = true then some (decide (((rd a0 x14).Flags) < (0 : Int)) : Bool) else (if (decide (((rd a0 x14).Flags) > (255 : Int))) = true then some (decide (((rd a0 x14).Flags) > (255 : Int)) : Bool) else (if ((IntKind.i64.wrap (BitVec.ofInt IntKind.i64.bits ((rd a0 x14).Flags) &&& BitVec.ofInt IntKind.i64.bits (16 : Int)).toNat) != (0 : Int)) = true then some ((IntKind.i64.wrap (BitVec.ofInt IntKind.i64.bits ((rd a0 x14).Flags) &&& BitVec.ofInt IntKind.i64.bits (16 : Int)).toNat) != (0 : Int) : Bool) else (if (decide (((rd a0 x14).Kind) < (0 : Int))) = true then some (decide (((rd a0 x14).Kind) < (0 : Int)) : Bool) else some (decide (((rd a0 x14).Kind) > (255 : Int)) : Bool)))))).bind fun s40 => (if s40 = true then some (.inl ((([] : List Int) : List Int), ((1 : Int) : Int))) else (if (decide ((((rd a0 x14).Value).length : Int) > (4096 : Int))) = true then some (.inl ((([] : List Int) : List Int), ((2 : Int) : Int))) else (if (decide ((((rd a0 x14).Value).length : Int) > (255 : Int))) = true then (if (x13.length + ([IntKind.u8.wrap (IntKind.i64.wrap (BitVec.ofInt IntKind.i64.bits ((rd a0 x14).Flags) ||| BitVec.ofInt IntKind.i64.bits (16 : Int)).toNat), IntKind.u8.wrap ((rd a0 x14).Kind)] : List Int).length) * 1 ≤ 140737488355328 then (cursor_Put.f k (x13 ++ ([IntKind.u8.wrap (IntKind.i64.wrap (BitVec.ofInt IntKind.i64.bits ((rd a0 x14).Flags) ||| BitVec.ofInt IntKind.i64.bits (16 : Int)).toNat), IntKind.u8.wrap ((rd a0 x14).Kind)] : List Int)) (((rd a0 x14).Value).length : Int) (2 : Int)).bind fun t59 => (if (t59.1.length + ((rd a0 x14).Value).length) * 1 ≤ 140737488355328 then attr_Join.l0 k a0 kk (t59.1 ++ ((rd a0 x14).Value)) (IntKind.i64.wrap (x14 + (1 : Int))) else none) else none) else (if (x13.length + ([IntKind.u8.wrap ((rd a0 x14).Flags), IntKind.u8.wrap ((rd a0 x14).Kind), IntKind.u8.wrap (((rd a0 x14).Value).length : Int)] : List Int).length) * 1 ≤ 140737488355328 then (if ((x13 ++ ([IntKind.u8.wrap ((rd a0 x14).Flags), IntKind.u8.wrap ((rd a0 x14).Kind), IntKind.u8.wrap (((rd a0 x14).Value).length : Int)] : List Int)).length + ((rd a0 x14).Value).length) * 1 ≤ 140737488355328 then attr_Join.l0 k a0 kk ((x13 ++ ([IntKind.u8.wrap ((rd a0 x14).Flags), IntKind.u8.wrap ((rd a0 x14).Kind), IntKind.u8.wrap (((rd a0 x14).Value).length : Int)] : List Int)) ++ ((rd a0 x14).Value)) (IntKind.i64.wrap (x14 + (1 : Int))) else none) else none)))) else none) else some (.inr (x13 : List Int)))
def attr_Join.f (k : Nat) (a0 : List S_api_Raw) : Option (List Int × Int) := (if (decide ((a0.length : Int) > (64 : Int))) = true then some ((([] : List Int) : List Int), ((2 : Int) : Int)) else (attr_Join.l0 k a0 k ([] : List Int) (0 : Int)).bind fun s11 => match s11 with | .inl r => some r | .inr s11' => some ((s11' : List Int), ((0 : Int) : Int)))
set_option maxRecDepth 100000 in
theorem attr_Join.walk (w : World) (M : List Nat) (hM : MS M w) (a0 : List S_api_Raw) (ao1 : Option Addr) (cap1 : Nat) (f1 : RSl rS_api_Raw 61 w M ao1 cap1 a0) (k : Nat) (r : List Int × Int) (H : attr_Join.f k a0 = some r) :
    To Tryd.prog 29 [.slice ao1 a0.length cap1] w fun v w' => ∃ (ao83 : Option Addr) (cap83 : Nat), v = .tuple #[.slice ao83 r.1.length cap83, .int .i64 r.2] ∧ (Own (rInt .u8) 5 w' (blkL ao83 ++ (M)) ao83 cap83 r.1) ∧ (∀ x ∈ blkL ao83, w.heap.size ≤ x) ∧ Chg [] w w' ∧ MS (blkL ao83 ++ (M)) w' := by
 unfold attr_Join.f at H
 refine ent Tryd.func29 rfl [(0, .slice ao1 a0.length cap1)] rfl (by rfl) fun a ha => ?_
 have hC : Chg [] w w := Chg.refl _ _
 refine wp_seq_k fun K2 hK2 => ?_
 refine wp_region_lit ?_
 refine seg ha 2 [(0, .slice ao1 a0.length cap1)] (by kernel_rfl) fun a ha => ?_
 refine hK2 _ _ ?_; try clear hK2 K2
 refine wp_seq_k fun K3 hK3 => ?_
 refine wp_seq_k fun K4 hK4 => ?_
 refine wp_region_lit ?_
 refine seg ha 3 [(0, .slice ao1 a0.length cap1), (10, .bool (decide ((a0.length : Int) > (64 : Int))))] (by kernel_rfl) fun a ha => ?_
 refine hK4 _ _ ?_; try clear hK4 K4
 refine cnd ha rfl (fun hc5 => ?_) (fun hc5 => ?_)
 ·have H := ite_t hc5 H
  refine wp_seq_k fun K6 hK6 => ?_
  refine wp_region_lit ?_
  refine seg ha 2 [(2, .slice none 0 0), (3, .int .i64 (2 : Int))] (by kernel_rfl) fun a ha => ?_
  refine hK6 _ _ ?_; try clear hK6 K6
  refine wp_ret ?_
  try simp only [Exit.then, Exit.inBlock]
  have p_z7_M : ∀ x ∈ blkL none, x ∉ M := fun x hx hy => absurd (hM x (hy)) (Nat.not_lt.2 ((fun _ h => nomatch h) x hx))
  have e_z7 : ∀ x ∈ blkL none, w.heap.size ≤ x := fun x hx => Nat.le_trans hC.size ((fun _ h => nomatch h) x hx)
  have hM : MS (blkL none ++ (M)) w := (MS.app (fun _ h => nomatch h) (hM.chg (Chg.refl [] _)))
  obtain rfl := Option.some.inj H
  refine rt2 ha rfl rfl rfl ?_
  exact ⟨none, 0, rfl, Own.nil, e_z7, hC, hM⟩
 ·have H := ite_f hc5 H
  refine wp_skip ?_
  refine hK3 _ _ ?_; try clear hK3 K3
  refine wp_seq_k fun K8 hK8 => ?_
  refine wp_region_lit ?_
  refine seg ha 1 [(0, .slice ao1 a0.length cap1), (4, .slice none 0 0)] (by kernel_rfl) fun a ha => ?_
  refine hK8 _ _ ?_; try clear hK8 K8
  refine wp_seq_k fun K9 hK9 => ?_
  refine wp_seq_k fun K10 hK10 => ?_
  refine wp_region_lit ?_
  refine seg ha 3 [(4, .slice none 0 0), (11, .slice ao1 a0.length cap1), (12, .int .i64 (a0.length : Int)), (13, .int .i64 (0 : Int))] (by kernel_rfl) fun a ha => ?_
  refine hK10 _ _ ?_; try clear hK10 K10
  refine wp_block ?_
  obtain ⟨s11, H11, H⟩ := bind_some H
  have J11 : ∀ s11' (a : Act) (wx11 : World) (ao15 : Option Addr) (cap15 : Nat), s11 = .inr s11' → Has a Tryd.f29.ntmps [(4, .slice ao15 s11'.length cap15)] → (Own (rInt .u8) 5 wx11 (blkL ao15 ++ (M)) ao15 cap15 s11') → (∀ x ∈ blkL ao15, w.heap.size ≤ x) → (∀ x ∈ blkL ao15, x ∉ M) → (Chg [] w wx11) → (MS (blkL ao15 ++ (M)) wx11) → K9 a wx11 := by
   intro s11' a wx11 ao15 cap15 hs ha f15 e_i15 p_i15_M hC hM
   subst hs
   refine hK9 _ _ ?_; try clear hK9 K9
   refine wp_seq_k fun K16 hK16 => ?_
   refine wp_region_lit ?_
   refine seg ha 3 [(2, .slice ao15 s11'.length cap15), (3, .int .i64 (0 : Int))] (by kernel_rfl) fun a ha => ?_
   refine hK16 _ _ ?_; try clear hK16 K16
   refine wp_ret ?_
   try simp only [Exit.then, Exit.inBlock]
   obtain rfl := Option.some.inj H
   refine rt2 ha rfl rfl rfl ?_
   exact ⟨ao15, cap15, rfl, f15, e_i15, hC, hM⟩
  have Hc11 := H
  have H := H11
  refine wp_loop_ghost (fun kk a w11 => ∃ (x13 : List Int) (x14 : Int) (ao12 : Option Addr) (cap12 : Nat), attr_Join.l0 k a0 kk x13 x14 = some s11 ∧ Has a Tryd.f29.ntmps [(4, .slice ao12 x13.length cap12), (11, .slice ao1 a0.length cap1), (12, .int .i64 (a0.length : Int)), (13, .int .i64 x14)] ∧ (Own (rInt .u8) 5 w11 (blkL ao12 ++ (M)) ao12 cap12 x13) ∧ (RSl rS_api_Raw 61 w11 (blkL ao12 ++ (M)) ao1 cap1 a0) ∧ (∀ x ∈ blkL ao12, w.heap.size ≤ x) ∧ (∀ x ∈ blkL ao12, x ∉ M) ∧ (Chg [] w w11) ∧ (MS (blkL ao12 ++ (M)) w11)) k ?_ ?_
  ·skip
   have o1 : Ok [] (M) w.heap.size := Ok.nil _ _
   have o2 : Ok (blkL none ++ (M)) (M) w.heap.size := (Ok.app (fun _ h => nomatch h) (Ok.refl _ _))
   have f1 := f1.chg (Chg.refl [] _) o1 o2
   have p_z17_M : ∀ x ∈ blkL none, x ∉ M := fun x hx hy => absurd (hM x (hy)) (Nat.not_lt.2 ((fun _ h => nomatch h) x hx))
   have e_z17 : ∀ x ∈ blkL none, w.heap.size ≤ x := fun x hx => Nat.le_trans hC.size ((fun _ h => nomatch h) x hx)
   have hM : MS (blkL none ++ (M)) w := (MS.app (fun _ h => nomatch h) (hM.chg (Chg.refl [] _)))
   exact ⟨([] : List Int), (0 : Int), none, 0, H, (ha.sel (by kernel_rfl)), Own.nil, f1, e_z17, p_z17_M, hC, hM⟩
  ·rintro kk a w11 ⟨x13, x14, ao12, cap12, H, ha, f12, f1, e_i12, p_i12_M, hC, hM⟩
   obtain _ | kk := kk
   ·exact nomatch (show none = some _ from H)
   rw [attr_Join.l0] at H
   refine wp_seq_k fun K18 hK18 => ?_
   refine wp_region_lit ?_
   refine seg ha 1 [(4, .slice ao12 x13.length cap12), (11, .slice ao1 a0.length cap1), (12, .int .i64 (a0.length : Int)), (13, .int .i64 x14), (14, .bool (decide (x14 < (a0.length : Int))))] (by kernel_rfl) fun a ha => ?_
   refine hK18 _ _ ?_; try clear hK18 K18
   refine wp_seq_k fun K19 hK19 => ?_
   refine cnd ha rfl (fun hc20 => ?_) (fun hc20 => ?_)
   ·have H := ite_t hc20 H
    refine wp_skip ?_
    refine hK19 _ _ ?_; try clear hK19 K19
    refine wp_seq_k fun K21 hK21 => ?_
    refine wp_block ?_
    refine wp_seq_k fun K22 hK22 => ?_
    refine wp_region_lit ?_
    obtain ⟨⟨hx23, hx23'⟩, H⟩ := ite_some H
    refine ix (r := rS_api_Raw) ha (by kernel_rfl) (by kernel_rfl) rfl rfl rfl rfl rfl f1 hx23 hx23' fun a ge24 oe25 cs26 hn29 hR27 hE28 ha => ?_
    rw [rd_get] at hR27
    obtain ⟨ao30, cap30, rfl, f30⟩ := rS_api_Raw.open hR27
    refine ldA (cs := (cS_api_Raw (rd a0 x14) ao30 cap30)) ha rfl (by kernel_rfl) rfl rfl rfl (cells_sub hE28 (all := (cS_api_Raw (rd a0 x14) ao30 cap30)) [] [] (by kernel_rfl)) fun a ha => ?_
    refine al (cs := (cS_api_Raw (⟨(0 : Int), (0 : Int), ([] : List Int)⟩ : S_api_Raw) none 0)) (z := .agg (cS_api_Raw (⟨(0 : Int), (0 : Int), ([] : List Int)⟩ : S_api_Raw) none 0).toArray) ha (fun w => by kernel_rfl) rfl rfl rfl rfl fun a w31 g32 hN33 ha => ?_
    have o1 : Ok [] (blkL ao12 ++ (M)) w11.heap.size := Ok.nil _ _
    have o2 : Ok ([g32] ++ (blkL ao12 ++ (M))) (blkL ao12 ++ (M)) w11.heap.size := (Ok.app (hN33.ok _) (Ok.refl _ _))
    have f12 := f12.chg hN33.chg o1 o2 (fun _ _ h => nomatch h) (fun _ h => mr (ml h))
    have f1 := f1.chg hN33.chg o1 o2
    have f30 := f30.chg hN33.chg o1 o2
    have p_i34_i12 : ∀ x ∈ [g32], x ∉ (blkL ao12) := fun x hx hy => absurd (hM x (ml hy)) (Nat.not_lt.2 ((hN33.ge1) x hx))
    have p_i34_M : ∀ x ∈ [g32], x ∉ M := fun x hx hy => absurd (hM x (mr (hy))) (Nat.not_lt.2 ((hN33.ge1) x hx))
    have e_i34 : ∀ x ∈ [g32], w.heap.size ≤ x := fun x hx => Nat.le_trans hC.size ((hN33.ge1) x hx)
    have hM : MS ([g32] ++ (blkL ao12 ++ (M))) w31 := (MS.app hN33.ms (hM.chg hN33.chg))
    have hC := hC.trans hN33.chg (Ok.nil _ _)
    have hBg32 : Box w31 g32 (cS_api_Raw (⟨(0 : Int), (0 : Int), ([] : List Int)⟩ : S_api_Raw) none 0) := hN33.box
    refine stA (l := (cS_api_Raw (rd a0 x14) ao30 cap30)) ha rfl rfl rfl (by kernel_rfl) rfl rfl hBg32 rfl fun a w35 ha hb2 hc36 _ => ?_
    have o1 : Ok [g32] ([g32] ++ (blkL ao12 ++ (M))) w31.heap.size := (fun _ h => .inl (ml h))
    have o2 : Ok ([g32] ++ (blkL ao12 ++ (M))) ([g32] ++ (blkL ao12 ++ (M))) w31.heap.size := (Ok.refl _ _)
    have f12 := f12.chg hc36 o1 o2 (fun x (hx : x ∈ blkL ao12) (hy : x ∈ [g32]) => p_i34_i12 x hy hx) (fun _ h => mr (ml h))
    have f1 := f1.chg hc36 o1 o2
    have f30 := f30.chg hc36 o1 o2
    have hM : MS ([g32] ++ (blkL ao12 ++ (M))) w35 := (hM.chg hc36)
    have hC := hC.trans hc36 (fun x h => .inr (e_i34 x h))
    have hBg32 : Box w35 g32 (cS_api_Raw (rd a0 x14) ao30 cap30) := hb2
    refine hK22 _ _ ?_; try clear hK22 K22
    refine wp_seq_k fun K37 hK37 => ?_
    refine wp_region_lit ?_
    refine seg ha 1 [(4, .slice ao12 x13.length cap12), (6, .pointer (some ⟨g32, 0, none⟩)), (11, .slice ao1 a0.length cap1), (12, .int .i64 (a0.length : Int)), (13, .int .i64 x14), (17, .pointer (some ⟨g32, 2, none⟩))] (by kernel_rfl) fun a ha => ?_
    refine ld (v := .slice ao30 ((rd a0 x14).Value).length cap30) ha rfl (by kernel_rfl) rfl rfl rfl (hBg32.cell' (o := 2) rfl (by kernel_rfl)) fun a ha => ?_
    refine seg ha 2 [(4, .slice ao12 x13.length cap12), (6, .pointer (some ⟨g32, 0, none⟩)), (7, .int .i64 (((rd a0 x14).Value).length : Int)), (11, .slice ao1 a0.length cap1), (12, .int .i64 (a0.length : Int)), (13, .int .i64 x14)] (by kernel_rfl) fun a ha => ?_
    refine hK37 _ _ ?_; try clear hK37 K37
    refine wp_seq_k fun K38 hK38 => ?_
    refine wp_block ?_
    refine wp_seq_k fun K39 hK39 => ?_
    obtain ⟨s40, H40, H⟩ := bind_some H
    have J40 : ∀ (a : Act) (w40 : World), Has a Tryd.f29.ntmps [(4, .slice ao12 x13.length cap12), (6, .pointer (some ⟨g32, 0, none⟩)), (7, .int .i64 (((rd a0 x14).Value).length : Int)), (11, .slice ao1 a0.length cap1), (12, .int .i64 (a0.length : Int)), (13, .int .i64 x14), (31, .bool s40)] → (Own (rInt .u8) 5 w40 ([g32] ++ (blkL ao12 ++ (M))) ao12 cap12 x13) → (RSl rS_api_Raw 61 w40 ([g32] ++ (blkL ao12 ++ (M))) ao1 cap1 a0) → (RSl (rInt .u8) 5 w40 ([g32] ++ (blkL ao12 ++ (M))) ao30 cap30 ((rd a0 x14).Value)) → (Box w40 g32 (cS_api_Raw (rd a0 x14) ao30 cap30)) → (Chg [] w w40) → (MS ([g32] ++ (blkL ao12 ++ (M))) w40) → K39 a w40 := by
     intro a w40 ha f12 f1 f30 hBg32 hC hM
     refine hK39 _ _ ?_; try clear hK39 K39
     refine cnd ha rfl (fun hc41 => ?_) (fun hc41 => ?_)
     ·have H := ite_t hc41 H
      refine wp_seq_k fun K42 hK42 => ?_
      refine wp_region_lit ?_
      refine seg ha 2 [(2, .slice none 0 0), (3, .int .i64 (1 : Int))] (by kernel_rfl) fun a ha => ?_
      refine hK42 _ _ ?_; try clear hK42 K42
      refine wp_ret ?_
      try simp only [Exit.then, Exit.inBlock]
      have o1 : Ok [] ([g32] ++ (blkL ao12 ++ (M))) w40.heap.size := Ok.nil _ _
      have o2 : Ok (blkL none ++ (M)) ([g32] ++ (blkL ao12 ++ (M))) w40.heap.size := (Ok.app (fun _ h => nomatch h) (fun _ h => .inl (mr (mr (h)))))
      have f30 := f30.chg (Chg.refl [] _) o1 o2
      have p_z43_M : ∀ x ∈ blkL none, x ∉ M := fun x hx hy => absurd (hM x (mr (mr (hy)))) (Nat.not_lt.2 ((fun _ h => nomatch h) x hx))
      have e_z43 : ∀ x ∈ blkL none, w.heap.size ≤ x := fun x hx => Nat.le_trans hC.size ((fun _ h => nomatch h) x hx)
      have hM : MS (blkL none ++ (M)) w40 := (MS.app (fun _ h => nomatch h) (fun x h => hM.chg (Chg.refl [] _) x (mr (mr (h)))))
      obtain rfl := Option.some.inj H
      have H := (show some _ = some _ from Hc11)
      obtain rfl := Option.some.inj H
      refine rt2 ha rfl rfl rfl ?_
      exact ⟨none, 0, rfl, Own.nil, e_z43, hC, hM⟩
     ·have H := ite_f hc41 H
      refine wp_seq_k fun K44 hK44 => ?_
      refine wp_region_lit ?_
      refine seg ha 3 [(4, .slice ao12 x13.length cap12), (6, .pointer (some ⟨g32, 0, none⟩)), (7, .int .i64 (((rd a0 x14).Value).length : Int)), (11, .slice ao1 a0.length cap1), (12, .int .i64 (a0.length : Int)), (13, .int .i64 x14), (48, .bool (decide ((((rd a0 x14).Value).length : Int) > (4096 : Int))))] (by kernel_rfl) fun a ha => ?_
      refine hK44 _ _ ?_; try clear hK44 K44
      refine cnd ha rfl (fun hc45 => ?_) (fun hc45 => ?_)
      ·have H := ite_t hc45 H
       refine wp_seq_k fun K46 hK46 => ?_
       refine wp_region_lit ?_
       refine seg ha 2 [(2, .slice none 0 0), (3, .int .i64 (2 : Int))] (by kernel_rfl) fun a ha => ?_
       refine hK46 _ _ ?_; try clear hK46 K46
       refine wp_ret ?_
       try simp only [Exit.then, Exit.inBlock]
       have o1 : Ok [] ([g32] ++ (blkL ao12 ++ (M))) w40.heap.size := Ok.nil _ _
       have o2 : Ok (blkL none ++ (M)) ([g32] ++ (blkL ao12 ++ (M))) w40.heap.size := (Ok.app (fun _ h => nomatch h) (fun _ h => .inl (mr (mr (h)))))
       have f30 := f30.chg (Chg.refl [] _) o1 o2
       have p_z47_M : ∀ x ∈ blkL none, x ∉ M := fun x hx hy => absurd (hM x (mr (mr (hy)))) (Nat.not_lt.2 ((fun _ h => nomatch h) x hx))
       have e_z47 : ∀ x ∈ blkL none, w.heap.size ≤ x := fun x hx => Nat.le_trans hC.size ((fun _ h => nomatch h) x hx)
       have hM : MS (blkL none ++ (M)) w40 := (MS.app (fun _ h => nomatch h) (fun x h => hM.chg (Chg.refl [] _) x (mr (mr (h)))))
       obtain rfl := Option.some.inj H
       have H := (show some _ = some _ from Hc11)
       obtain rfl := Option.some.inj H
       refine rt2 ha rfl rfl rfl ?_
       exact ⟨none, 0, rfl, Own.nil, e_z47, hC, hM⟩
      ·have H := ite_f hc45 H
       refine wp_seq_k fun K48 hK48 => ?_
       refine wp_region_lit ?_
       refine seg ha 3 [(4, .slice ao12 x13.length cap12), (6, .pointer (some ⟨g32, 0, none⟩)), (7, .int .i64 (((rd a0 x14).Value).length : Int)), (11, .slice ao1 a0.length cap1), (12, .int .i64 (a0.length : Int)), (13, .int .i64 x14), (51, .bool (decide ((((rd a0 x14).Value).length : Int) > (255 : Int))))] (by kernel_rfl) fun a ha => ?_
       refine hK48 _ _ ?_; try clear hK48 K48
       refine cnd ha rfl (fun hc49 => ?_) (fun hc49 => ?_)
       ·have H := ite_t hc49 H
        refine wp_seq_k fun K50 hK50 => ?_
        refine wp_region_lit ?_
        refine seg ha 2 [(6, .pointer (some ⟨g32, 0, none⟩)), (7, .int .i64 (((rd a0 x14).Value).length : Int)), (11, .slice ao1 a0.length cap1), (12, .int .i64 (a0.length : Int)), (13, .int .i64 x14), (54, .slice ao12 x13.length cap12), (55, .pointer (some ⟨g32, 0, none⟩))] (by kernel_rfl) fun a ha => ?_
        refine ld (v := .int .i64 ((rd a0 x14).Flags)) ha rfl (by kernel_rfl) rfl rfl rfl (hBg32.cell' (o := 0) rfl (by kernel_rfl)) fun a ha => ?_
        refine seg ha 3 [(6, .pointer (some ⟨g32, 0, none⟩)), (7, .int .i64 (((rd a0 x14).Value).length : Int)), (11, .slice ao1 a0.length cap1), (12, .int .i64 (a0.length : Int)), (13, .int .i64 x14), (54, .slice ao12 x13.length cap12), (58, .int .u8 (IntKind.u8.wrap (IntKind.i64.wrap (BitVec.ofInt IntKind.i64.bits ((rd a0 x14).Flags) ||| BitVec.ofInt IntKind.i64.bits (16 : Int)).toNat))), (59, .pointer (some ⟨g32, 1, none⟩))] (by kernel_rfl) fun a ha => ?_
        refine ld (v := .int .i64 ((rd a0 x14).Kind)) ha rfl (by kernel_rfl) rfl rfl rfl (hBg32.cell' (o := 1) rfl (by kernel_rfl)) fun a ha => ?_
        refine seg ha 1 [(6, .pointer (some ⟨g32, 0, none⟩)), (7, .int .i64 (((rd a0 x14).Value).length : Int)), (11, .slice ao1 a0.length cap1), (12, .int .i64 (a0.length : Int)), (13, .int .i64 x14), (54, .slice ao12 x13.length cap12), (58, .int .u8 (IntKind.u8.wrap (IntKind.i64.wrap (BitVec.ofInt IntKind.i64.bits ((rd a0 x14).Flags) ||| BitVec.ofInt IntKind.i64.bits (16 : Int)).toNat))), (61, .int .u8 (IntKind.u8.wrap ((rd a0 x14).Kind)))] (by kernel_rfl) fun a ha => ?_
        refine bsl (vals := ([.int .u8 (IntKind.u8.wrap (IntKind.i64.wrap (BitVec.ofInt IntKind.i64.bits ((rd a0 x14).Flags) ||| BitVec.ofInt IntKind.i64.bits (16 : Int)).toNat)), .int .u8 (IntKind.u8.wrap ((rd a0 x14).Kind))] : List Value)) (T := 5) ha rfl (([.int .u8 (IntKind.u8.wrap (IntKind.i64.wrap (BitVec.ofInt IntKind.i64.bits ((rd a0 x14).Flags) ||| BitVec.ofInt IntKind.i64.bits (16 : Int)).toNat))] : List Value) ++ (([.int .u8 (IntKind.u8.wrap ((rd a0 x14).Kind))] : List Value) ++ ([] : List Value))) (fun w => by kernel_rfl) rfl rfl rfl fun a w51 g52 hN53 ha => ?_
        have o1 : Ok [] ([g32] ++ (blkL ao12 ++ (M))) w40.heap.size := Ok.nil _ _
        have o2 : Ok ([g52] ++ ([g32] ++ (blkL ao12 ++ (M)))) ([g32] ++ (blkL ao12 ++ (M))) w40.heap.size := (Ok.app (hN53.ok _) (Ok.refl _ _))
        have f1 := f1.chg hN53.chg o1 o2
        have f12 := f12.chg hN53.chg o1 o2 (fun _ _ h => nomatch h) (fun _ h => mr (mr (ml h)))
        have f30 := f30.chg hN53.chg o1 o2
        have hBg32 := hBg32.chg hN53.chg (fun h => nomatch h)
        have p_i54_i34 : ∀ x ∈ [g52], x ∉ ([g32]) := fun x hx hy => absurd (hM x (ml hy)) (Nat.not_lt.2 ((hN53.ge1) x hx))
        have p_i54_i12 : ∀ x ∈ [g52], x ∉ (blkL ao12) := fun x hx hy => absurd (hM x (mr (ml hy))) (Nat.not_lt.2 ((hN53.ge1) x hx))
        have p_i54_M : ∀ x ∈ [g52], x ∉ M := fun x hx hy => absurd (hM x (mr (mr (hy)))) (Nat.not_lt.2 ((hN53.ge1) x hx))
        have e_i54 : ∀ x ∈ [g52], w.heap.size ≤ x := fun x hx => Nat.le_trans hC.size ((hN53.ge1) x hx)
        have hM : MS ([g52] ++ ([g32] ++ (blkL ao12 ++ (M)))) w51 := (MS.app hN53.ms (hM.chg hN53.chg))
        have hC := hC.trans hN53.chg (Ok.nil _ _)
        have f55 : Own (rInt .u8) 5 w51 ([g52] ++ ([g32] ++ (blkL ao12 ++ (M)))) (some ⟨g52, 0, none⟩) 2 ([IntKind.u8.wrap (IntKind.i64.wrap (BitVec.ofInt IntKind.i64.bits ((rd a0 x14).Flags) ||| BitVec.ofInt IntKind.i64.bits (16 : Int)).toNat), IntKind.u8.wrap ((rd a0 x14).Kind)] : List Int) := hN53.own ⟨([.int .u8 (IntKind.u8.wrap (IntKind.i64.wrap (BitVec.ofInt IntKind.i64.bits ((rd a0 x14).Flags) ||| BitVec.ofInt IntKind.i64.bits (16 : Int)).toNat))] : List Value), _, rfl, rfl, ⟨([.int .u8 (IntKind.u8.wrap ((rd a0 x14).Kind))] : List Value), _, rfl, rfl, rfl⟩⟩ (Nat.le_of_ble_eq_true rfl)
        obtain ⟨hx56, H⟩ := ite_some H
        refine app (r := (rInt .u8)) (xs := x13) (ys := ([IntKind.u8.wrap (IntKind.i64.wrap (BitVec.ofInt IntKind.i64.bits ((rd a0 x14).Flags) ||| BitVec.ofInt IntKind.i64.bits (16 : Int)).toNat), IntKind.u8.wrap ((rd a0 x14).Kind)] : List Int)) ha (ElemT.mk' (bytes := 1) (by kernel_rfl)) rfl rfl rfl rfl rfl f12 f55.src hx56 (by decide) fun a w57 ao58 cap58 hO58 hc58 hk58 hl58 ha => ?_
        have o1 : Ok (blkL ao12) ([g52] ++ ([g32] ++ (blkL ao12 ++ (M)))) w51.heap.size := (fun _ h => .inl (mr (mr (ml h))))
        have o2 : Ok (blkL ao58 ++ ([g52] ++ ([g32] ++ (M)))) ([g52] ++ ([g32] ++ (blkL ao12 ++ (M)))) w51.heap.size := (Ok.app (Ok.to hk58 (fun _ h => mr (mr (ml h)))) (Ok.app (fun _ h => .inl (ml h)) (Ok.app (fun _ h => .inl (mr (ml h))) (fun _ h => .inl (mr (mr (mr (h))))))))
        have f1 := f1.chg hc58 o1 o2
        have f55 := f55.chg hc58 o1 o2 p_i54_i12 (fun _ h => mr (ml h))
        have f30 := f30.chg hc58 o1 o2
        have hBg32 := hBg32.chg hc58 (p_i34_i12 g32 (by simp))
        have p_i58_i54 : ∀ x ∈ blkL ao58, x ∉ ([g52]) := fun x hx hy => (hk58 x hx).elim (fun h => (fun x hx hy => p_i54_i12 x hy hx) x h hy) (fun h => absurd (hM x (ml hy)) (Nat.not_lt.2 h))
        have p_i58_i34 : ∀ x ∈ blkL ao58, x ∉ ([g32]) := fun x hx hy => (hk58 x hx).elim (fun h => (fun x hx hy => p_i34_i12 x hy hx) x h hy) (fun h => absurd (hM x (mr (ml hy))) (Nat.not_lt.2 h))
        have p_i58_M : ∀ x ∈ blkL ao58, x ∉ M := fun x hx hy => (hk58 x hx).elim (fun h => p_i12_M x h hy) (fun h => absurd (hM x (mr (mr (mr (hy))))) (Nat.not_lt.2 h))
        have e_i58 : ∀ x ∈ blkL ao58, w.heap.size ≤ x := fun x hx => (hk58 x hx).elim (e_i12 x) (Nat.le_trans hC.size)
        have hM : MS (blkL ao58 ++ ([g52] ++ ([g32] ++ (M)))) w57 := (MS.app hl58 (MS.app (fun x h => hM.chg hc58 x (ml h)) (MS.app (fun x h => hM.chg hc58 x (mr (ml h))) (fun x h => hM.chg hc58 x (mr (mr (mr (h))))))))
        have hC := hC.trans hc58 (fun x h => .inr (e_i12 x h))
        have f58 := hO58.chg (M' := blkL ao58 ++ ([g52] ++ ([g32] ++ (M)))) (Chg.refl [] _) (Ok.nil _ _) (Ok.app (fun _ h => .inl (ml h)) (Ok.to (Ok.app (fun _ h => .inl (ml h)) (Ok.app (fun _ h => .inl (mr (ml h))) (fun _ h => .inl (mr (mr (mr (h))))))) (fun _ h => mr h))) (fun _ _ h => nomatch h) (fun _ h => ml h)
        refine seg ha 1 [(4, .slice ao58 (x13 ++ ([IntKind.u8.wrap (IntKind.i64.wrap (BitVec.ofInt IntKind.i64.bits ((rd a0 x14).Flags) ||| BitVec.ofInt IntKind.i64.bits (16 : Int)).toNat), IntKind.u8.wrap ((rd a0 x14).Kind)] : List Int)).length cap58), (6, .pointer (some ⟨g32, 0, none⟩)), (7, .int .i64 (((rd a0 x14).Value).length : Int)), (11, .slice ao1 a0.length cap1), (12, .int .i64 (a0.length : Int)), (13, .int .i64 x14)] (by kernel_rfl) fun a ha => ?_
        refine hK50 _ _ ?_; try clear hK50 K50
        refine wp_region_lit ?_
        refine seg ha 2 [(6, .pointer (some ⟨g32, 0, none⟩)), (11, .slice ao1 a0.length cap1), (12, .int .i64 (a0.length : Int)), (13, .int .i64 x14), (65, .slice ao58 (x13 ++ ([IntKind.u8.wrap (IntKind.i64.wrap (BitVec.ofInt IntKind.i64.bits ((rd a0 x14).Flags) ||| BitVec.ofInt IntKind.i64.bits (16 : Int)).toNat), IntKind.u8.wrap ((rd a0 x14).Kind)] : List Int)).length cap58), (66, .int .i64 (((rd a0 x14).Value).length : Int))] (by kernel_rfl) fun a ha => ?_
        have hML : MS ([g52] ++ ([g32] ++ (M))) w57 := MS.rest hM (fun _ h => (List.mem_append.1 h).elim (fun h => mr (ml h)) (fun h => (List.mem_append.1 h).elim (fun h => mr (mr (ml h))) (fun h => mr (mr (mr (h))))))
        have oL : Ok ([g52] ++ ([g32] ++ (M))) (blkL ao58 ++ ([g52] ++ ([g32] ++ (M)))) w57.heap.size := (fun _ h => .inl (mr (h)))
        obtain ⟨t59, H59, H⟩ := bind_some H
        refine cl ha (by rfl) (by kernel_rfl) (by rfl) (by rfl) (by rfl) (cursor_Put.walk w57 _ hML (x13 ++ ([IntKind.u8.wrap (IntKind.i64.wrap (BitVec.ofInt IntKind.i64.bits ((rd a0 x14).Flags) ||| BitVec.ofInt IntKind.i64.bits (16 : Int)).toNat), IntKind.u8.wrap ((rd a0 x14).Kind)] : List Int)) ao58 cap58 (Own.toRSl (M' := [g52] ++ ([g32] ++ (M))) f58 oL (fun x hx hm => (List.mem_append.1 hm).elim (fun h => p_i58_i54 x hx h) (fun h => (List.mem_append.1 h).elim (fun h => p_i58_i34 x hx h) (fun h => p_i58_M x hx h)))) (((rd a0 x14).Value).length : Int) (2 : Int) k _ H59) ?_
        rintro _ w59 ⟨ao60, cap60, rfl, f60, ne_i60, hc59, hMn⟩ a ha
        have o1 : Ok [] (blkL ao58 ++ ([g52] ++ ([g32] ++ (M)))) w57.heap.size := Ok.nil _ _
        have o2 : Ok (blkL ao60 ++ (blkL ao58 ++ ([g52] ++ ([g32] ++ (M))))) (blkL ao58 ++ ([g52] ++ ([g32] ++ (M)))) w57.heap.size := (Ok.app (fun x h => .inr (ne_i60 x h)) (Ok.refl _ _))
        have f1 := f1.chg hc59 o1 o2
        have f58 := f58.chg hc59 o1 o2 (fun _ _ h => nomatch h) (fun _ h => mr (ml h))
        have f30 := f30.chg hc59 o1 o2
        have hBg32 := hBg32.chg hc59 (fun h => nomatch h)
        have p_i60_i58 : ∀ x ∈ blkL ao60, x ∉ (blkL ao58) := fun x hx hy => absurd (hM x (ml hy)) (Nat.not_lt.2 (ne_i60 x hx))
        have p_i60_i54 : ∀ x ∈ blkL ao60, x ∉ ([g52]) := fun x hx hy => absurd (hM x (mr (ml hy))) (Nat.not_lt.2 (ne_i60 x hx))
        have p_i60_i34 : ∀ x ∈ blkL ao60, x ∉ ([g32]) := fun x hx hy => absurd (hM x (mr (mr (ml hy)))) (Nat.not_lt.2 (ne_i60 x hx))
        have p_i60_M : ∀ x ∈ blkL ao60, x ∉ M := fun x hx hy => absurd (hM x (mr (mr (mr (hy))))) (Nat.not_lt.2 (ne_i60 x hx))
        have e_i60 : ∀ x ∈ blkL ao60, w.heap.size ≤ x := fun x hx => Nat.le_trans hC.size (ne_i60 x hx)
        have hM : MS (blkL ao60 ++ (blkL ao58 ++ ([g52] ++ ([g32] ++ (M))))) w59 := (MS.app (fun x h => hMn x (ml h)) (hM.chg hc59))
        have hC := hC.trans hc59 (Ok.nil _ _)
        have f60 := Own.re (M' := blkL ao60 ++ (blkL ao58 ++ ([g52] ++ ([g32] ++ (M))))) (fun _ _ _ _ _ h => h) f60 (fun _ h => ml h)
        refine seg ha 4 [(4, .slice ao60 t59.1.length cap60), (6, .pointer (some ⟨g32, 0, none⟩)), (11, .slice ao1 a0.length cap1), (12, .int .i64 (a0.length : Int)), (13, .int .i64 x14)] (by kernel_rfl) fun a ha => ?_
        refine hK38 _ _ ?_; try clear hK38 K38
        refine wp_region_lit ?_
        refine seg ha 2 [(11, .slice ao1 a0.length cap1), (12, .int .i64 (a0.length : Int)), (13, .int .i64 x14), (70, .slice ao60 t59.1.length cap60), (71, .pointer (some ⟨g32, 2, none⟩))] (by kernel_rfl) fun a ha => ?_
        refine ld (v := .slice ao30 ((rd a0 x14).Value).length cap30) ha rfl (by kernel_rfl) rfl rfl rfl (hBg32.cell' (o := 2) rfl (by kernel_rfl)) fun a ha => ?_
        obtain ⟨hx61, H⟩ := ite_some H
        refine app (r := (rInt .u8)) (xs := t59.1) (ys := (rd a0 x14).Value) ha (ElemT.mk' (bytes := 1) (by kernel_rfl)) rfl rfl rfl rfl rfl f60 f30.src hx61 (by decide) fun a w62 ao63 cap63 hO63 hc63 hk63 hl63 ha => ?_
        have o1 : Ok (blkL ao60) (blkL ao60 ++ (blkL ao58 ++ ([g52] ++ ([g32] ++ (M))))) w59.heap.size := (fun _ h => .inl (ml h))
        have o2 : Ok (blkL ao63 ++ (blkL ao58 ++ ([g52] ++ ([g32] ++ (M))))) (blkL ao60 ++ (blkL ao58 ++ ([g52] ++ ([g32] ++ (M))))) w59.heap.size := (Ok.app (Ok.to hk63 (fun _ h => ml h)) (fun _ h => .inl (mr (h))))
        have f1 := f1.chg hc63 o1 o2
        have f30 := f30.chg hc63 o1 o2
        have hBg32 := hBg32.chg hc63 ((fun x (hx : x ∈ [g32]) (hy : x ∈ blkL ao60) => p_i60_i34 x hy hx) g32 (by simp))
        have p_i63_i58 : ∀ x ∈ blkL ao63, x ∉ (blkL ao58) := fun x hx hy => (hk63 x hx).elim (fun h => p_i60_i58 x h hy) (fun h => absurd (hM x (mr (ml hy))) (Nat.not_lt.2 h))
        have p_i63_i54 : ∀ x ∈ blkL ao63, x ∉ ([g52]) := fun x hx hy => (hk63 x hx).elim (fun h => p_i60_i54 x h hy) (fun h => absurd (hM x (mr (mr (ml hy)))) (Nat.not_lt.2 h))
        have p_i63_i34 : ∀ x ∈ blkL ao63, x ∉ ([g32]) := fun x hx hy => (hk63 x hx).elim (fun h => p_i60_i34 x h hy) (fun h => absurd (hM x (mr (mr (mr (ml hy))))) (Nat.not_lt.2 h))
        have p_i63_M : ∀ x ∈ blkL ao63, x ∉ M := fun x hx hy => (hk63 x hx).elim (fun h => p_i60_M x h hy) (fun h => absurd (hM x (mr (mr (mr (mr (hy)))))) (Nat.not_lt.2 h))
        have e_i63 : ∀ x ∈ blkL ao63, w.heap.size ≤ x := fun x hx => (hk63 x hx).elim (e_i60 x) (Nat.le_trans hC.size)
        have hM : MS (blkL ao63 ++ (blkL ao58 ++ ([g52] ++ ([g32] ++ (M))))) w62 := (MS.app hl63 (fun x h => hM.chg hc63 x (mr (h))))
        have hC := hC.trans hc63 (fun x h => .inr (e_i60 x h))
        have f63 := hO63.chg (M' := blkL ao63 ++ (blkL ao58 ++ ([g52] ++ ([g32] ++ (M))))) (Chg.refl [] _) (Ok.nil _ _) (Ok.app (fun _ h => .inl (ml h)) (Ok.to (fun _ h => .inl (mr (h))) (fun _ h => mr h))) (fun _ _ h => nomatch h) (fun _ h => ml h)
        refine seg ha 1 [(4, .slice ao63 (t59.1 ++ ((rd a0 x14).Value)).length cap63), (11, .slice ao1 a0.length cap1), (12, .int .i64 (a0.length : Int)), (13, .int .i64 x14)] (by kernel_rfl) fun a ha => ?_
        refine hK21 _ _ ?_; try clear hK21 K21
        refine wp_region_lit ?_
        refine seg ha 2 [(4, .slice ao63 (t59.1 ++ ((rd a0 x14).Value)).length cap63), (11, .slice ao1 a0.length cap1), (12, .int .i64 (a0.length : Int)), (13, .int .i64 (IntKind.i64.wrap (x14 + (1 : Int))))] (by kernel_rfl) fun a ha => ?_
        have o1 : Ok [] (blkL ao63 ++ (blkL ao58 ++ ([g52] ++ ([g32] ++ (M))))) w62.heap.size := Ok.nil _ _
        have o2 : Ok (blkL ao63 ++ (M)) (blkL ao63 ++ (blkL ao58 ++ ([g52] ++ ([g32] ++ (M))))) w62.heap.size := (Ok.app (fun _ h => .inl (ml h)) (fun _ h => .inl (mr (mr (mr (mr (h)))))))
        have f1 := f1.chg (Chg.refl [] _) o1 o2
        have f63 := f63.chg (Chg.refl [] _) o1 o2 (fun _ _ h => nomatch h) (fun _ h => ml h)
        have f30 := f30.chg (Chg.refl [] _) o1 o2
        have hM : MS (blkL ao63 ++ (M)) w62 := (MS.app (fun x h => hM.chg (Chg.refl [] _) x (ml h)) (fun x h => hM.chg (Chg.refl [] _) x (mr (mr (mr (mr (h)))))))
        exact ⟨kk, Nat.lt_succ_self _, ⟨(t59.1 ++ ((rd a0 x14).Value)), IntKind.i64.wrap (x14 + (1 : Int)), ao63, cap63, H, (ha.sel (by kernel_rfl)), f63, f1, e_i63, p_i63_M, hC, hM⟩⟩
       ·have H := ite_f hc49 H
        refine wp_region_lit ?_
        refine seg ha 2 [(6, .pointer (some ⟨g32, 0, none⟩)), (7, .int .i64 (((rd a0 x14).Value).length : Int)), (11, .slice ao1 a0.length cap1), (12, .int .i64 (a0.length : Int)), (13, .int .i64 x14), (20, .slice ao12 x13.length cap12), (21, .pointer (some ⟨g32, 0, none⟩))] (by kernel_rfl) fun a ha => ?_
        refine ld (v := .int .i64 ((rd a0 x14).Flags)) ha rfl (by kernel_rfl) rfl rfl rfl (hBg32.cell' (o := 0) rfl (by kernel_rfl)) fun a ha => ?_
        refine seg ha 2 [(6, .pointer (some ⟨g32, 0, none⟩)), (7, .int .i64 (((rd a0 x14).Value).length : Int)), (11, .slice ao1 a0.length cap1), (12, .int .i64 (a0.length : Int)), (13, .int .i64 x14), (20, .slice ao12 x13.length cap12), (23, .int .u8 (IntKind.u8.wrap ((rd a0 x14).Flags))), (24, .pointer (some ⟨g32, 1, none⟩))] (by kernel_rfl) fun a ha => ?_
        refine ld (v := .int .i64 ((rd a0 x14).Kind)) ha rfl (by kernel_rfl) rfl rfl rfl (hBg32.cell' (o := 1) rfl (by kernel_rfl)) fun a ha => ?_
        refine seg ha 3 [(6, .pointer (some ⟨g32, 0, none⟩)), (11, .slice ao1 a0.length cap1), (12, .int .i64 (a0.length : Int)), (13, .int .i64 x14), (20, .slice ao12 x13.length cap12), (23, .int .u8 (IntKind.u8.wrap ((rd a0 x14).Flags))), (26, .int .u8 (IntKind.u8.wrap ((rd a0 x14).Kind))), (28, .int .u8 (IntKind.u8.wrap (((rd a0 x14).Value).length : Int)))] (by kernel_rfl) fun a ha => ?_
        refine bsl (vals := ([.int .u8 (IntKind.u8.wrap ((rd a0 x14).Flags)), .int .u8 (IntKind.u8.wrap ((rd a0 x14).Kind)), .int .u8 (IntKind.u8.wrap (((rd a0 x14).Value).length : Int))] : List Value)) (T := 5) ha rfl (([.int .u8 (IntKind.u8.wrap ((rd a0 x14).Flags))] : List Value) ++ (([.int .u8 (IntKind.u8.wrap ((rd a0 x14).Kind))] : List Value) ++ (([.int .u8 (IntKind.u8.wrap (((rd a0 x14).Value).length : Int))] : List Value) ++ ([] : List Value)))) (fun w => by kernel_rfl) rfl rfl rfl fun a w64 g65 hN66 ha => ?_
        have o1 : Ok [] ([g32] ++ (blkL ao12 ++ (M))) w40.heap.size := Ok.nil _ _
        have o2 : Ok ([g65] ++ ([g32] ++ (blkL ao12 ++ (M)))) ([g32] ++ (blkL ao12 ++ (M))) w40.heap.size := (Ok.app (hN66.ok _) (Ok.refl _ _))
        have f1 := f1.chg hN66.chg o1 o2
        have f12 := f12.chg hN66.chg o1 o2 (fun _ _ h => nomatch h) (fun _ h => mr (mr (ml h)))
        have f30 := f30.chg hN66.chg o1 o2
        have hBg32 := hBg32.chg hN66.chg (fun h => nomatch h)
        have p_i67_i34 : ∀ x ∈ [g65], x ∉ ([g32]) := fun x hx hy => absurd (hM x (ml hy)) (Nat.not_lt.2 ((hN66.ge1) x hx))
        have p_i67_i12 : ∀ x ∈ [g65], x ∉ (blkL ao12) := fun x hx hy => absurd (hM x (mr (ml hy))) (Nat.not_lt.2 ((hN66.ge1) x hx))
        have p_i67_M : ∀ x ∈ [g65], x ∉ M := fun x hx hy => absurd (hM x (mr (mr (hy)))) (Nat.not_lt.2 ((hN66.ge1) x hx))
        have e_i67 : ∀ x ∈ [g65], w.heap.size ≤ x := fun x hx => Nat.le_trans hC.size ((hN66.ge1) x hx)
        have hM : MS ([g65] ++ ([g32] ++ (blkL ao12 ++ (M)))) w64 := (MS.app hN66.ms (hM.chg hN66.chg))
        have hC := hC.trans hN66.chg (Ok.nil _ _)
        have f68 : Own (rInt .u8) 5 w64 ([g65] ++ ([g32] ++ (blkL ao12 ++ (M)))) (some ⟨g65, 0, none⟩) 3 ([IntKind.u8.wrap ((rd a0 x14).Flags), IntKind.u8.wrap ((rd a0 x14).Kind), IntKind.u8.wrap (((rd a0 x14).Value).length : Int)] : List Int) := hN66.own ⟨([.int .u8 (IntKind.u8.wrap ((rd a0 x14).Flags))] : List Value), _, rfl, rfl, ⟨([.int .u8 (IntKind.u8.wrap ((rd a0 x14).Kind))] : List Value), _, rfl, rfl, ⟨([.int .u8 (IntKind.u8.wrap (((rd a0 x14).Value).length : Int))] : List Value), _, rfl, rfl, rfl⟩⟩⟩ (Nat.le_of_ble_eq_true rfl)
        obtain ⟨hx69, H⟩ := ite_some H
        refine app (r := (rInt .u8)) (xs := x13) (ys := ([IntKind.u8.wrap ((rd a0 x14).Flags), IntKind.u8.wrap ((rd a0 x14).Kind), IntKind.u8.wrap (((rd a0 x14).Value).length : Int)] : List Int)) ha (ElemT.mk' (bytes := 1) (by kernel_rfl)) rfl rfl rfl rfl rfl f12 f68.src hx69 (by decide) fun a w70 ao71 cap71 hO71 hc71 hk71 hl71 ha => ?_
        have o1 : Ok (blkL ao12) ([g65] ++ ([g32] ++ (blkL ao12 ++ (M)))) w64.heap.size := (fun _ h => .inl (mr (mr (ml h))))
        have o2 : Ok (blkL ao71 ++ ([g65] ++ ([g32] ++ (M)))) ([g65] ++ ([g32] ++ (blkL ao12 ++ (M)))) w64.heap.size := (Ok.app (Ok.to hk71 (fun _ h => mr (mr (ml h)))) (Ok.app (fun _ h => .inl (ml h)) (Ok.app (fun _ h => .inl (mr (ml h))) (fun _ h => .inl (mr (mr (mr (h))))))))
        have f1 := f1.chg hc71 o1 o2
        have f68 := f68.chg hc71 o1 o2 p_i67_i12 (fun _ h => mr (ml h))
        have f30 := f30.chg hc71 o1 o2
        have hBg32 := hBg32.chg hc71 (p_i34_i12 g32 (by simp))
        have p_i71_i67 : ∀ x ∈ blkL ao71, x ∉ ([g65]) := fun x hx hy => (hk71 x hx).elim (fun h => (fun x hx hy => p_i67_i12 x hy hx) x h hy) (fun h => absurd (hM x (ml hy)) (Nat.not_lt.2 h))
        have p_i71_i34 : ∀ x ∈ blkL ao71, x ∉ ([g32]) := fun x hx hy => (hk71 x hx).elim (fun h => (fun x hx hy => p_i34_i12 x hy hx) x h hy) (fun h => absurd (hM x (mr (ml hy))) (Nat.not_lt.2 h))
        have p_i71_M : ∀ x ∈ blkL ao71, x ∉ M := fun x hx hy => (hk71 x hx).elim (fun h => p_i12_M x h hy) (fun h => absurd (hM x (mr (mr (mr (hy))))) (Nat.not_lt.2 h))
        have e_i71 : ∀ x ∈ blkL ao71, w.heap.size ≤ x := fun x hx => (hk71 x hx).elim (e_i12 x) (Nat.le_trans hC.size)
        have hM : MS (blkL ao71 ++ ([g65] ++ ([g32] ++ (M)))) w70 := (MS.app hl71 (MS.app (fun x h => hM.chg hc71 x (ml h)) (MS.app (fun x h => hM.chg hc71 x (mr (ml h))) (fun x h => hM.chg hc71 x (mr (mr (mr (h))))))))
        have hC := hC.trans hc71 (fun x h => .inr (e_i12 x h))
        have f71 := hO71.chg (M' := blkL ao71 ++ ([g65] ++ ([g32] ++ (M)))) (Chg.refl [] _) (Ok.nil _ _) (Ok.app (fun _ h => .inl (ml h)) (Ok.to (Ok.app (fun _ h => .inl (ml h)) (Ok.app (fun _ h => .inl (mr (ml h))) (fun _ h => .inl (mr (mr (mr (h))))))) (fun _ h => mr h))) (fun _ _ h => nomatch h) (fun _ h => ml h)
        refine seg ha 1 [(4, .slice ao71 (x13 ++ ([IntKind.u8.wrap ((rd a0 x14).Flags), IntKind.u8.wrap ((rd a0 x14).Kind), IntKind.u8.wrap (((rd a0 x14).Value).length : Int)] : List Int)).length cap71), (6, .pointer (some ⟨g32, 0, none⟩)), (11, .slice ao1 a0.length cap1), (12, .int .i64 (a0.length : Int)), (13, .int .i64 x14)] (by kernel_rfl) fun a ha => ?_
        refine hK38 _ _ ?_; try clear hK38 K38
        refine wp_region_lit ?_
        refine seg ha 2 [(11, .slice ao1 a0.length cap1), (12, .int .i64 (a0.length : Int)), (13, .int .i64 x14), (70, .slice ao71 (x13 ++ ([IntKind.u8.wrap ((rd a0 x14).Flags), IntKind.u8.wrap ((rd a0 x14).Kind), IntKind.u8.wrap (((rd a0 x14).Value).length : Int)] : List Int)).length cap71), (71, .pointer (some ⟨g32, 2, none⟩))] (by kernel_rfl) fun a ha => ?_
        refine ld (v := .slice ao30 ((rd a0 x14).Value).length cap30) ha rfl (by kernel_rfl) rfl rfl rfl (hBg32.cell' (o := 2) rfl (by kernel_rfl)) fun a ha => ?_
        obtain ⟨hx72, H⟩ := ite_some H
        refine app (r := (rInt .u8)) (xs := (x13 ++ ([IntKind.u8.wrap ((rd a0 x14).Flags), IntKind.u8.wrap ((rd a0 x14).Kind), IntKind.u8.wrap (((rd a0 x14).Value).length : Int)] : List Int))) (ys := (rd a0 x14).Value) ha (ElemT.mk' (bytes := 1) (by kernel_rfl)) rfl rfl rfl rfl rfl f71 f30.src hx72 (by decide) fun a w73 ao74 cap74 hO74 hc74 hk74 hl74 ha => ?_
        have o1 : Ok (blkL ao71) (blkL ao71 ++ ([g65] ++ ([g32] ++ (M)))) w70.heap.size := (fun _ h => .inl (ml h))
        have o2 : Ok (blkL ao74 ++ ([g65] ++ ([g32] ++ (M)))) (blkL ao71 ++ ([g65] ++ ([g32] ++ (M)))) w70.heap.size := (Ok.app (Ok.to hk74 (fun _ h => ml h)) (fun _ h => .inl (mr (h))))
        have f1 := f1.chg hc74 o1 o2
        have f30 := f30.chg hc74 o1 o2
        have hBg32 := hBg32.chg hc74 ((fun x (hx : x ∈ [g32]) (hy : x ∈ blkL ao71) => p_i71_i34 x hy hx) g32 (by simp))
        have p_i74_i67 : ∀ x ∈ blkL ao74, x ∉ ([g65]) := fun x hx hy => (hk74 x hx).elim (fun h => p_i71_i67 x h hy) (fun h => absurd (hM x (mr (ml hy))) (Nat.not_lt.2 h))
        have p_i74_i34 : ∀ x ∈ blkL ao74, x ∉ ([g32]) := fun x hx hy => (hk74 x hx).elim (fun h => p_i71_i34 x h hy) (fun h => absurd (hM x (mr (mr (ml hy)))) (Nat.not_lt.2 h))
        have p_i74_M : ∀ x ∈ blkL ao74, x ∉ M := fun x hx hy => (hk74 x hx).elim (fun h => p_i71_M x h hy) (fun h => absurd (hM x (mr (mr (mr (hy))))) (Nat.not_lt.2 h))
        have e_i74 : ∀ x ∈ blkL ao74, w.heap.size ≤ x := fun x hx => (hk74 x hx).elim (e_i71 x) (Nat.le_trans hC.size)
        have hM : MS (blkL ao74 ++ ([g65] ++ ([g32] ++ (M)))) w73 := (MS.app hl74 (fun x h => hM.chg hc74 x (mr (h))))
        have hC := hC.trans hc74 (fun x h => .inr (e_i71 x h))
        have f74 := hO74.chg (M' := blkL ao74 ++ ([g65] ++ ([g32] ++ (M)))) (Chg.refl [] _) (Ok.nil _ _) (Ok.app (fun _ h => .inl (ml h)) (Ok.to (fun _ h => .inl (mr (h))) (fun _ h => mr h))) (fun _ _ h => nomatch h) (fun _ h => ml h)
        refine seg ha 1 [(4, .slice ao74 ((x13 ++ ([IntKind.u8.wrap ((rd a0 x14).Flags), IntKind.u8.wrap ((rd a0 x14).Kind), IntKind.u8.wrap (((rd a0 x14).Value).length : Int)] : List Int)) ++ ((rd a0 x14).Value)).length cap74), (11, .slice ao1 a0.length cap1), (12, .int .i64 (a0.length : Int)), (13, .int .i64 x14)] (by kernel_rfl) fun a ha => ?_
        refine hK21 _ _ ?_; try clear hK21 K21
        refine wp_region_lit ?_
        refine seg ha 2 [(4, .slice ao74 ((x13 ++ ([IntKind.u8.wrap ((rd a0 x14).Flags), IntKind.u8.wrap ((rd a0 x14).Kind), IntKind.u8.wrap (((rd a0 x14).Value).length : Int)] : List Int)) ++ ((rd a0 x14).Value)).length cap74), (11, .slice ao1 a0.length cap1), (12, .int .i64 (a0.length : Int)), (13, .int .i64 (IntKind.i64.wrap (x14 + (1 : Int))))] (by kernel_rfl) fun a ha => ?_
        have o1 : Ok [] (blkL ao74 ++ ([g65] ++ ([g32] ++ (M)))) w73.heap.size := Ok.nil _ _
        have o2 : Ok (blkL ao74 ++ (M)) (blkL ao74 ++ ([g65] ++ ([g32] ++ (M)))) w73.heap.size := (Ok.app (fun _ h => .inl (ml h)) (fun _ h => .inl (mr (mr (mr (h))))))
        have f1 := f1.chg (Chg.refl [] _) o1 o2
        have f74 := f74.chg (Chg.refl [] _) o1 o2 (fun _ _ h => nomatch h) (fun _ h => ml h)
        have f30 := f30.chg (Chg.refl [] _) o1 o2
        have hM : MS (blkL ao74 ++ (M)) w73 := (MS.app (fun x h => hM.chg (Chg.refl [] _) x (ml h)) (fun x h => hM.chg (Chg.refl [] _) x (mr (mr (mr (h))))))
        exact ⟨kk, Nat.lt_succ_self _, ⟨((x13 ++ ([IntKind.u8.wrap ((rd a0 x14).Flags), IntKind.u8.wrap ((rd a0 x14).Kind), IntKind.u8.wrap (((rd a0 x14).Value).length : Int)] : List Int)) ++ ((rd a0 x14).Value)), IntKind.i64.wrap (x14 + (1 : Int)), ao74, cap74, H, (ha.sel (by kernel_rfl)), f74, f1, e_i74, p_i74_M, hC, hM⟩⟩
    have H := H40
    refine wp_seq_k fun K75 hK75 => ?_
    refine wp_region_lit ?_
    refine seg ha 1 [(4, .slice ao12 x13.length cap12), (6, .pointer (some ⟨g32, 0, none⟩)), (7, .int .i64 (((rd a0 x14).Value).length : Int)), (11, .slice ao1 a0.length cap1), (12, .int .i64 (a0.length : Int)), (13, .int .i64 x14), (32, .pointer (some ⟨g32, 0, none⟩))] (by kernel_rfl) fun a ha => ?_
    refine ld (v := .int .i64 ((rd a0 x14).Flags)) ha rfl (by kernel_rfl) rfl rfl rfl (hBg32.cell' (o := 0) rfl (by kernel_rfl)) fun a ha => ?_
    refine seg ha 2 [(4, .slice ao12 x13.length cap12), (6, .pointer (some ⟨g32, 0, none⟩)), (7, .int .i64 (((rd a0 x14).Value).length : Int)), (11, .slice ao1 a0.length cap1), (12, .int .i64 (a0.length : Int)), (13, .int .i64 x14), (31, .bool (decide (((rd a0 x14).Flags) < (0 : Int))))] (by kernel_rfl) fun a ha => ?_
    refine hK75 _ _ ?_; try clear hK75 K75
    refine cnd ha rfl (fun hc76 => ?_) (fun hc76 => ?_)
    ·have H := ite_t hc76 H
     refine wp_skip ?_
     obtain rfl := Option.some.inj H
     exact J40 _ _ (ha.sel (by kernel_rfl)) f12 f1 f30 hBg32 hC hM
    ·have H := ite_f hc76 H
     refine wp_seq_k fun K77 hK77 => ?_
     refine wp_region_lit ?_
     refine seg ha 1 [(4, .slice ao12 x13.length cap12), (6, .pointer (some ⟨g32, 0, none⟩)), (7, .int .i64 (((rd a0 x14).Value).length : Int)), (11, .slice ao1 a0.length cap1), (12, .int .i64 (a0.length : Int)), (13, .int .i64 x14), (35, .pointer (some ⟨g32, 0, none⟩))] (by kernel_rfl) fun a ha => ?_
     refine ld (v := .int .i64 ((rd a0 x14).Flags)) ha rfl (by kernel_rfl) rfl rfl rfl (hBg32.cell' (o := 0) rfl (by kernel_rfl)) fun a ha => ?_
     refine seg ha 2 [(4, .slice ao12 x13.length cap12), (6, .pointer (some ⟨g32, 0, none⟩)), (7, .int .i64 (((rd a0 x14).Value).length : Int)), (11, .slice ao1 a0.length cap1), (12, .int .i64 (a0.length : Int)), (13, .int .i64 x14), (31, .bool (decide (((rd a0 x14).Flags) > (255 : Int))))] (by kernel_rfl) fun a ha => ?_
     refine hK77 _ _ ?_; try clear hK77 K77
     refine cnd ha rfl (fun hc78 => ?_) (fun hc78 => ?_)
     ·have H := ite_t hc78 H
      refine wp_skip ?_
      obtain rfl := Option.some.inj H
      exact J40 _ _ (ha.sel (by kernel_rfl)) f12 f1 f30 hBg32 hC hM
     ·have H := ite_f hc78 H
      refine wp_seq_k fun K79 hK79 => ?_
      refine wp_region_lit ?_
      refine seg ha 1 [(4, .slice ao12 x13.length cap12), (6, .pointer (some ⟨g32, 0, none⟩)), (7, .int .i64 (((rd a0 x14).Value).length : Int)), (11, .slice ao1 a0.length cap1), (12, .int .i64 (a0.length : Int)), (13, .int .i64 x14), (38, .pointer (some ⟨g32, 0, none⟩))] (by kernel_rfl) fun a ha => ?_
      refine ld (v := .int .i64 ((rd a0 x14).Flags)) ha rfl (by kernel_rfl) rfl rfl rfl (hBg32.cell' (o := 0) rfl (by kernel_rfl)) fun a ha => ?_
      refine seg ha 3 [(4, .slice ao12 x13.length cap12), (6, .pointer (some ⟨g32, 0, none⟩)), (7, .int .i64 (((rd a0 x14).Value).length : Int)), (11, .slice ao1 a0.length cap1), (12, .int .i64 (a0.length : Int)), (13, .int .i64 x14), (31, .bool ((IntKind.i64.wrap (BitVec.ofInt IntKind.i64.bits ((rd a0 x14).Flags) &&& BitVec.ofInt IntKind.i64.bits (16 : Int)).toNat) != (0 : Int)))] (by kernel_rfl) fun a ha => ?_
      refine hK79 _ _ ?_; try clear hK79 K79
      refine cnd ha rfl (fun hc80 => ?_) (fun hc80 => ?_)
      ·have H := ite_t hc80 H
       refine wp_skip ?_
       obtain rfl := Option.some.inj H
       exact J40 _ _ (ha.sel (by kernel_rfl)) f12 f1 f30 hBg32 hC hM
      ·have H := ite_f hc80 H
       refine wp_seq_k fun K81 hK81 => ?_
       refine wp_region_lit ?_
       refine seg ha 1 [(4, .slice ao12 x13.length cap12), (6, .pointer (some ⟨g32, 0, none⟩)), (7, .int .i64 (((rd a0 x14).Value).length : Int)), (11, .slice ao1 a0.length cap1), (12, .int .i64 (a0.length : Int)), (13, .int .i64 x14), (42, .pointer (some ⟨g32, 1, none⟩))] (by kernel_rfl) fun a ha => ?_
       refine ld (v := .int .i64 ((rd a0 x14).Kind)) ha rfl (by kernel_rfl) rfl rfl rfl (hBg32.cell' (o := 1) rfl (by kernel_rfl)) fun a ha => ?_
       refine seg ha 2 [(4, .slice ao12 x13.length cap12), (6, .pointer (some ⟨g32, 0, none⟩)), (7, .int .i64 (((rd a0 x14).Value).length : Int)), (11, .slice ao1 a0.length cap1), (12, .int .i64 (a0.length : Int)), (13, .int .i64 x14), (31, .bool (decide (((rd a0 x14).Kind) < (0 : Int))))] (by kernel_rfl) fun a ha => ?_
       refine hK81 _ _ ?_; try clear hK81 K81
       refine cnd ha rfl (fun hc82 => ?_) (fun hc82 => ?_)
       ·have H := ite_t hc82 H
        refine wp_skip ?_
        obtain rfl := Option.some.inj H
        exact J40 _ _ (ha.sel (by kernel_rfl)) f12 f1 f30 hBg32 hC hM
       ·have H := ite_f hc82 H
        refine wp_region_lit ?_
        refine seg ha 1 [(4, .slice ao12 x13.length cap12), (6, .pointer (some ⟨g32, 0, none⟩)), (7, .int .i64 (((rd a0 x14).Value).length : Int)), (11, .slice ao1 a0.length cap1), (12, .int .i64 (a0.length : Int)), (13, .int .i64 x14), (45, .pointer (some ⟨g32, 1, none⟩))] (by kernel_rfl) fun a ha => ?_
        refine ld (v := .int .i64 ((rd a0 x14).Kind)) ha rfl (by kernel_rfl) rfl rfl rfl (hBg32.cell' (o := 1) rfl (by kernel_rfl)) fun a ha => ?_
        refine seg ha 2 [(4, .slice ao12 x13.length cap12), (6, .pointer (some ⟨g32, 0, none⟩)), (7, .int .i64 (((rd a0 x14).Value).length : Int)), (11, .slice ao1 a0.length cap1), (12, .int .i64 (a0.length : Int)), (13, .int .i64 x14), (31, .bool (decide (((rd a0 x14).Kind) > (255 : Int))))] (by kernel_rfl) fun a ha => ?_
        obtain rfl := Option.some.inj H
        exact J40 _ _ (ha.sel (by kernel_rfl)) f12 f1 f30 hBg32 hC hM
   ·have H := ite_f hc20 H
    refine wp_exit ?_
    simp only [Exit.then, Exit.inBlock, ↓reduceIte, Nat.reduceEqDiff]
    obtain rfl := Option.some.inj H
    exact J11 _ _ _ ao12 cap12 rfl (ha.sel (by kernel_rfl)) f12 e_i12 p_i12_M hC hM

theorem Kept.go (w : World) (M : List Nat) (hM : MS M w) (a0 : List Int) (g : Nat) (hB : Box w g (a0.map (.int .u8) ++ [.int .u8 77])) (hl : a0.length ≤ 281474976710655) (a1 : List Int) (ao1 : Option Addr) (cap1 : Nat) (f1 : RSl (rInt .u8) 5 w M ao1 cap1 a1) :
    To Tryd.prog 16 [.slice (some ⟨g, 0, none⟩) a0.length (a0.length + 1), .slice ao1 a1.length cap1] w fun v w' => v = .bool ((bstr (b2s a0)).toList == (bstr (b2s a1)).toList) ∧ Chg [] w w' ∧ MS M w' := by
  have hmax : maxLen = 9223372036854775807 := rfl
  have f0 : RSl (rInt .u8) 5 w [] (some ⟨g, 0, none⟩) (a0.length + 1) a0 := Box.bytes hB (by simp) (by omega) (by omega)
  refine ent Tryd.func16 rfl [(0, .slice (some ⟨g, 0, none⟩) a0.length (a0.length + 1)), (1, .slice ao1 a1.length cap1)] rfl rfl fun a ha => ?_
  refine wp_seq_k fun K hK => ?_
  refine wp_region_lit ?_
  refine seg ha 1 [(0, .slice (some ⟨g, 0, none⟩) a0.length (a0.length + 1)), (1, .slice ao1 a1.length cap1)] (by kernel_rfl) fun a ha => ?_
  refine hK _ _ ?_; clear hK K
  refine wp_seq_k fun K hK => ?_
  refine wp_region_lit ?_
  refine seg ha 1 [(0, .slice (some ⟨g, 0, none⟩) a0.length (a0.length + 1)), (1, .slice ao1 a1.length cap1), (5, .slice (some ⟨g, 0, none⟩) a0.length (a0.length + 1))] (by kernel_rfl) fun a ha => ?_
  refine cvs ha rfl (by kernel_rfl) (by kernel_rfl) (by kernel_rfl) rfl rfl rfl f0 fun a ha => ?_
  refine seg ha 1 [(0, .slice (some ⟨g, 0, none⟩) a0.length (a0.length + 1)), (1, .slice ao1 a1.length cap1), (6, .string (bstr (b2s a0))), (7, .slice ao1 a1.length cap1)] (by kernel_rfl) fun a ha => ?_
  refine cvs ha rfl (by kernel_rfl) (by kernel_rfl) (by kernel_rfl) rfl rfl rfl f1 fun a ha => ?_
  refine seg ha 2 [(10, .bool ((bstr (b2s a0)).toList == (bstr (b2s a1)).toList)), (0, .slice (some ⟨g, 0, none⟩) a0.length (a0.length + 1)), (1, .slice ao1 a1.length cap1)] (by kernel_rfl) fun a ha => ?_
  rcases Bool.eq_false_or_eq_true ((bstr (b2s a0)).toList == (bstr (b2s a1)).toList) with hb | hb
  · have ha := ha.lit hb
    have hlen : a0.length = a1.length := by
      have h1 := eq_of_beq hb
      rw [ByteArray.toList_eq, ByteArray.toList_eq] at h1
      have := congrArg List.length h1
      simpa [bstr, b2s] using this
    have e8 : IntKind.i64.wrap ((a1.length : Int) + 1) = ((a1.length + 1 : Nat) : Int) := by rw [IntKind.wrap_i64]; omega
    refine sgh ha 4 [2, 2, 2, 2] [(10, .bool true), (1, .slice ao1 a1.length cap1), (11, .slice (some ⟨g, 0, none⟩) a0.length (a0.length + 1)), (14, .int .i64 (IntKind.i64.wrap ((a1.length : Int) + 1)))] (by kernel_rfl) fun a ha => ?_
    rw [e8] at ha
    refine slx (T := 5) (s := 1) ha (by kernel_rfl) (by kernel_rfl) rfl rfl (by omega) rfl rfl rfl fun a ha => ?_
    refine sgh ha 2 [2, 2] [(10, .bool true), (15, .slice (some ⟨g, 0, none⟩) (a1.length + 1) (a0.length + 1)), (17, .int .i64 a1.length)] (by kernel_rfl) fun a ha => ?_
    have hl2 : (List.replicate (a1.length + 1) (0 : Int)).length = a1.length + 1 := by simp
    refine hop (v := .pointer (some ⟨g, 0 + Int.toNat (a1.length : Int) * (rInt .u8).sz, none⟩)) (w' := w) ha rfl rfl rfl (ix_run (r := rInt .u8) (T := 5) (xs := List.replicate (a1.length + 1) (0 : Int)) (k := .i64) (i := (a1.length : Int)) ha (by kernel_rfl) (by kernel_rfl) (by rw [hl2]; rfl) rfl rfl (by omega) (by rw [hl2]; omega)) fun a ha => ?_
    refine ld (v := .int .u8 77) ha rfl (by kernel_rfl) rfl rfl rfl (hB.cell' (o := a0.length) (by simp [rInt, hlen]) (by rw [List.getElem?_append_right (by simp)]; simp)) fun a ha => ?_
    refine sgh ha 3 [2, 3, 0] [(4, .bool ((77 : Int) == 77))] (by kernel_rfl) fun a ha => ?_
    refine hK _ _ ?_; clear hK K
    refine wp_ret ?_
    refine rt1 ha rfl rfl ⟨?_, Chg.refl _ _, hM⟩
    rw [hb]; rfl
  · have ha := ha.lit hb
    refine sgh ha 12 [1, 1, 1, 1, 1, 1, 1, 1, 1, 1, 4, 0] [(4, .bool false)] (by kernel_rfl) fun a ha => ?_
    refine hK _ _ ?_; clear hK K
    refine wp_ret ?_
    refine rt1 ha rfl rfl ⟨?_, Chg.refl _ _, hM⟩
    rw [hb]
def Kept.f (a0 a1 : List Int) : Option Bool := some ((bstr (b2s a0)).toList == (bstr (b2s a1)).toList)
theorem Kept.walk (w : World) (M : List Nat) (hM : MS M w) (a0 : List Int) (ao0 : Option Addr) (cap0 : Nat) {M1 : List Nat} (f0 : Len w M1 ao0 cap0 a0) (a1 : List Int) (ao1 : Option Addr) (cap1 : Nat) (f1 : RSl (rInt .u8) 5 w M ao1 cap1 a1) (r : Bool) (H : Kept.f a0 a1 = some r) :
    To Tryd.prog 16 [.slice ao0 a0.length cap0, .slice ao1 a1.length cap1] w fun v w' => v = .bool r ∧ Chg [] w w' ∧ MS M w' := by
  obtain ⟨g, rfl, _, rfl, hl, hB⟩ := f0
  obtain rfl := Option.some.inj H
  exact Kept.go w M hM a0 g hB hl a1 ao1 cap1 f1

def vineryref09_SameRaws.l0 (a0 : List S_api_Raw) (a1 : List S_api_Raw) : Nat → Int → Option ((Bool) ⊕ (Unit))
  | 0, _ => none
  | kk + 1, x11 => (if (decide (x11 < (a0.length : Int))) = true then ((if 0 ≤ x11 ∧ x11 < (a0.length : Int) then (if 0 ≤ x11 ∧ x11 < (a1.length : Int) then (if (((rd a0 x11).Flags) != ((rd a1 x11).Flags)) = true then some (true : Bool) else (if 0 ≤ x11 ∧ x11 < (a0.length : Int) then (if 0 ≤ x11 ∧ x11 < (a1.length : Int) then (if (((rd a0 x11).Kind) != ((rd a1 x11).Kind)) = true then some (true : Bool) else (if 0 ≤ x11 ∧ x11 < (a0.length : Int) then (if 0 ≤ x11 ∧ x11 < (a1.length : Int) then some (!((bstr (b2s ((rd a0 x11).Value))).toList == (bstr (b2s ((rd a1 x11).Value))).toList) : Bool) else none) else none)) else none) else none)) else none) else none)).bind fun s18 => (if s18 = true then some (.inl ((false : Bool))) else vineryref09_SameRaws.l0 a0 a1 kk (IntKind.i64.wrap (x11 + (1 : Int)))) else some (.inr (() : Unit)))
def vineryref09_SameRaws.f (k : Nat) (a0 : List S_api_Raw) (a1 : List S_api_Raw) : Option (Bool) := (if ((a0.length : Int) != (a1.length : Int)) = true then some ((false : Bool)) else (vineryref09_SameRaws.l0 a0 a1 k (0 : Int)).bind fun s10 => match s10 with | .inl r => some r | .inr s10' => some ((true : Bool)))
set_option maxRecDepth 100000 in
theorem vineryref09_SameRaws.walk (w : World) (M : List Nat) (hM : MS M w) (a0 : List S_api_Raw) (ao1 : Option Addr) (cap1 : Nat) (f1 : RSl rS_api_Raw 61 w M ao1 cap1 a0) (a1 : List S_api_Raw) (ao2 : Option Addr) (cap2 : Nat) (f2 : RSl rS_api_Raw 61 w M ao2 cap2 a1) (k : Nat) (r : Bool) (H : vineryref09_SameRaws.f k a0 a1 = some r) :
    To Tryd.prog 30 [.slice ao1 a0.length cap1, .slice ao2 a1.length cap2] w fun v w' => v = .bool r ∧ Chg [] w w' ∧ MS (M) w' := by
 unfold vineryref09_SameRaws.f at H
 refine ent Tryd.func30 rfl [(0, .slice ao1 a0.length cap1), (1, .slice ao2 a1.length cap2)] rfl (by rfl) fun a ha => ?_
 have hC : Chg [] w w := Chg.refl _ _
 refine wp_seq_k fun K3 hK3 => ?_
 refine wp_region_lit ?_
 refine seg ha 1 [(0, .slice ao1 a0.length cap1), (1, .slice ao2 a1.length cap2)] (by kernel_rfl) fun a ha => ?_
 refine hK3 _ _ ?_; try clear hK3 K3
 refine wp_seq_k fun K4 hK4 => ?_
 refine wp_seq_k fun K5 hK5 => ?_
 refine wp_region_lit ?_
 refine seg ha 5 [(0, .slice ao1 a0.length cap1), (1, .slice ao2 a1.length cap2), (10, .bool ((a0.length : Int) != (a1.length : Int)))] (by kernel_rfl) fun a ha => ?_
 refine hK5 _ _ ?_; try clear hK5 K5
 refine cnd ha rfl (fun hc6 => ?_) (fun hc6 => ?_)
 ·have H := ite_t hc6 H
  refine wp_seq_k fun K7 hK7 => ?_
  refine wp_region_lit ?_
  refine seg ha 1 [(4, .bool false)] (by kernel_rfl) fun a ha => ?_
  refine hK7 _ _ ?_; try clear hK7 K7
  refine wp_ret ?_
  try simp only [Exit.then, Exit.inBlock]
  obtain rfl := Option.some.inj H
  refine rt1 ha rfl rfl ?_
  exact ⟨rfl, hC, hM⟩
 ·have H := ite_f hc6 H
  refine wp_skip ?_
  refine hK4 _ _ ?_; try clear hK4 K4
  refine wp_seq_k fun K8 hK8 => ?_
  refine wp_seq_k fun K9 hK9 => ?_
  refine wp_region_lit ?_
  refine seg ha 1 [(0, .slice ao1 a0.length cap1), (1, .slice ao2 a1.length cap2), (5, .int .i64 (0 : Int))] (by kernel_rfl) fun a ha => ?_
  refine hK9 _ _ ?_; try clear hK9 K9
  refine wp_block ?_
  obtain ⟨s10, H10, H⟩ := bind_some H
  have J10 : ∀ s10' (a : Act) (wx10 : World), s10 = .inr s10' → Has a Tryd.f30.ntmps [] → (Chg [] w wx10) → (MS (M) wx10) → K8 a wx10 := by
   intro s10' a wx10 hs ha hC hM
   subst hs
   refine hK8 _ _ ?_; try clear hK8 K8
   refine wp_seq_k fun K12 hK12 => ?_
   refine wp_region_lit ?_
   refine seg ha 1 [(4, .bool true)] (by kernel_rfl) fun a ha => ?_
   refine hK12 _ _ ?_; try clear hK12 K12
   refine wp_ret ?_
   try simp only [Exit.then, Exit.inBlock]
   obtain rfl := Option.some.inj H
   refine rt1 ha rfl rfl ?_
   exact ⟨rfl, hC, hM⟩
  have Hc10 := H
  have H := H10
  refine wp_loop_ghost (fun kk a w10 => ∃ (x11 : Int), vineryref09_SameRaws.l0 a0 a1 kk x11 = some s10 ∧ Has a Tryd.f30.ntmps [(0, .slice ao1 a0.length cap1), (1, .slice ao2 a1.length cap2), (5, .int .i64 x11)] ∧ (RSl rS_api_Raw 61 w10 (M) ao1 cap1 a0) ∧ (RSl rS_api_Raw 61 w10 (M) ao2 cap2 a1) ∧ (Chg [] w w10) ∧ (MS (M) w10)) k ?_ ?_
  ·skip
   exact ⟨(0 : Int), H, (ha.sel (by kernel_rfl)), f1, f2, hC, hM⟩
  ·rintro kk a w10 ⟨x11, H, ha, f1, f2, hC, hM⟩
   obtain _ | kk := kk
   ·exact nomatch (show none = some _ from H)
   rw [vineryref09_SameRaws.l0] at H
   refine wp_seq_k fun K13 hK13 => ?_
   refine wp_seq_k fun K14 hK14 => ?_
   refine wp_region_lit ?_
   refine seg ha 4 [(0, .slice ao1 a0.length cap1), (1, .slice ao2 a1.length cap2), (5, .int .i64 x11), (14, .bool (decide (x11 < (a0.length : Int))))] (by kernel_rfl) fun a ha => ?_
   refine hK14 _ _ ?_; try clear hK14 K14
   refine cnd ha rfl (fun hc15 => ?_) (fun hc15 => ?_)
   ·have H := ite_t hc15 H
    refine wp_skip ?_
    refine hK13 _ _ ?_; try clear hK13 K13
    refine wp_seq_k fun K16 hK16 => ?_
    refine wp_block ?_
    refine wp_seq_k fun K17 hK17 => ?_
    refine drq0 (fun w' => Chg [] w10 w') (by kernel_rfl) (by kernel_rfl) (fun _ h => h) ?_
    obtain ⟨s18, H18, H⟩ := bind_some H
    have J18 : ∀ (a : Act) (w18 : World), Has a Tryd.f30.ntmps [(0, .slice ao1 a0.length cap1), (1, .slice ao2 a1.length cap2), (5, .int .i64 x11), (55, .bool s18)] → (RSl rS_api_Raw 61 w18 (M) ao1 cap1 a0) → (RSl rS_api_Raw 61 w18 (M) ao2 cap2 a1) → (Chg [] w w18) → (MS (M) w18) → K17 a w18 := by
     intro a w18 ha f1 f2 hC hM
     refine hK17 _ _ ?_; try clear hK17 K17
     refine cnd ha rfl (fun hc19 => ?_) (fun hc19 => ?_)
     ·have H := ite_t hc19 H
      refine wp_seq_k fun K20 hK20 => ?_
      refine wp_region_lit ?_
      refine seg ha 1 [(4, .bool false)] (by kernel_rfl) fun a ha => ?_
      refine hK20 _ _ ?_; try clear hK20 K20
      refine wp_ret ?_
      try simp only [Exit.then, Exit.inBlock]
      obtain rfl := Option.some.inj H
      have H := (show some _ = some _ from Hc10)
      obtain rfl := Option.some.inj H
      refine rt1 ha rfl rfl ?_
      exact ⟨rfl, hC, hM⟩
     ·have H := ite_f hc19 H
      refine wp_skip ?_
      refine hK16 _ _ ?_; try clear hK16 K16
      refine wp_region_lit ?_
      refine seg ha 3 [(0, .slice ao1 a0.length cap1), (1, .slice ao2 a1.length cap2), (5, .int .i64 (IntKind.i64.wrap (x11 + (1 : Int))))] (by kernel_rfl) fun a ha => ?_
      exact ⟨kk, Nat.lt_succ_self _, ⟨IntKind.i64.wrap (x11 + (1 : Int)), H, (ha.sel (by kernel_rfl)), f1, f2, hC, hM⟩⟩
    have H := H18
    refine qp 0 (.slice ao1 a0.length cap1) ha rfl rfl rfl (by kernel_rfl) fun a ha => ?_
    refine qp 0 (.int .i64 x11) ha rfl rfl rfl (by kernel_rfl) fun a ha => ?_
    obtain ⟨⟨hx21, hx21'⟩, H⟩ := ite_some H
    obtain ⟨ge22, oe230, cs24, hx21eq, hn27, hR25, hE26⟩ := RSl.elem f1 (Int.toNat x11) (by omega)
    rw [rd_get] at hR25
    obtain ⟨ao28, cap28, rfl, f28⟩ := rS_api_Raw.open hR25
    refine qv (v := .pointer (some ⟨ge22, (oe230 + (Int.toNat x11) * rS_api_Raw.sz), none⟩)) ha rfl rfl rfl (fun w' hs => ix_run (r := rS_api_Raw) (T := 61) ha (by kernel_rfl) (by kernel_rfl) (by rfl) (by rfl) hx21eq hx21 hx21') fun a ha => ?_
    refine qp 0 (.pointer (some ⟨ge22, (oe230 + (Int.toNat x11) * rS_api_Raw.sz), none⟩)) ha rfl rfl rfl (by kernel_rfl) fun a ha => ?_
    refine qv (v := .int .i64 ((rd a0 x11).Flags)) ha rfl rfl rfl (fun w' hs => ld_run ha rfl (by kernel_rfl) (hs.keep (hE26 0 (.int .i64 ((rd a0 x11).Flags)) (by kernel_rfl)))) fun a ha => ?_
    refine qp 0 (.slice ao2 a1.length cap2) ha rfl rfl rfl (by kernel_rfl) fun a ha => ?_
    refine qp 0 (.int .i64 x11) ha rfl rfl rfl (by kernel_rfl) fun a ha => ?_
    obtain ⟨⟨hx29, hx29'⟩, H⟩ := ite_some H
    obtain ⟨ge30, oe310, cs32, hx29eq, hn35, hR33, hE34⟩ := RSl.elem f2 (Int.toNat x11) (by omega)
    rw [rd_get] at hR33
    obtain ⟨ao36, cap36, rfl, f36⟩ := rS_api_Raw.open hR33
    refine qv (v := .pointer (some ⟨ge30, (oe310 + (Int.toNat x11) * rS_api_Raw.sz), none⟩)) ha rfl rfl rfl (fun w' hs => ix_run (r := rS_api_Raw) (T := 61) ha (by kernel_rfl) (by kernel_rfl) (by rfl) (by rfl) hx29eq hx29 hx29') fun a ha => ?_
    refine qp 0 (.pointer (some ⟨ge30, (oe310 + (Int.toNat x11) * rS_api_Raw.sz), none⟩)) ha rfl rfl rfl (by kernel_rfl) fun a ha => ?_
    refine qv (v := .int .i64 ((rd a1 x11).Flags)) ha rfl rfl rfl (fun w' hs => ld_run ha rfl (by kernel_rfl) (hs.keep (hE34 0 (.int .i64 ((rd a1 x11).Flags)) (by kernel_rfl)))) fun a ha => ?_
    refine qp 0 (.bool (((rd a0 x11).Flags) != ((rd a1 x11).Flags))) ha rfl rfl rfl (by kernel_rfl) fun a ha => ?_
    refine qp 0 (.bool (((rd a0 x11).Flags) != ((rd a1 x11).Flags))) ha rfl rfl rfl (by kernel_rfl) fun a ha => ?_
    have ha := ha.sel (env' := [(28, .bool (((rd a0 x11).Flags) != ((rd a1 x11).Flags))), (0, .slice ao1 a0.length cap1), (1, .slice ao2 a1.length cap2), (5, .int .i64 x11)]) (by kernel_rfl)
    rcases Bool.eq_false_or_eq_true (((rd a0 x11).Flags) != ((rd a1 x11).Flags)) with hb37 | hb37
    ·have ha := ha.lit hb37
     have H := ite_t hb37 H
     refine qo ha rfl rfl rfl fun a ha => ?_
     refine qo ha rfl rfl rfl fun a ha => ?_
     refine qo ha rfl rfl rfl fun a ha => ?_
     refine qo ha rfl rfl rfl fun a ha => ?_
     refine qo ha rfl rfl rfl fun a ha => ?_
     refine qo ha rfl rfl rfl fun a ha => ?_
     refine qo ha rfl rfl rfl fun a ha => ?_
     refine qo ha rfl rfl rfl fun a ha => ?_
     refine qo ha rfl rfl rfl fun a ha => ?_
     refine qo ha rfl rfl rfl fun a ha => ?_
     refine qo ha rfl rfl rfl fun a ha => ?_
     refine qp 3 (.bool true) ha rfl rfl rfl (by kernel_rfl) fun a ha => ?_
     refine qp 0 (.bool true) ha rfl rfl rfl (by kernel_rfl) fun a ha => ?_
     refine qo ha rfl rfl rfl fun a ha => ?_
     refine qo ha rfl rfl rfl fun a ha => ?_
     refine qo ha rfl rfl rfl fun a ha => ?_
     refine qo ha rfl rfl rfl fun a ha => ?_
     refine qo ha rfl rfl rfl fun a ha => ?_
     refine qo ha rfl rfl rfl fun a ha => ?_
     refine qo ha rfl rfl rfl fun a ha => ?_
     refine qo ha rfl rfl rfl fun a ha => ?_
     refine qo ha rfl rfl rfl fun a ha => ?_
     refine qo ha rfl rfl rfl fun a ha => ?_
     refine qo ha rfl rfl rfl fun a ha => ?_
     refine qo ha rfl rfl rfl fun a ha => ?_
     refine qo ha rfl rfl rfl fun a ha => ?_
     refine qp 3 (.bool true) ha rfl rfl rfl (by kernel_rfl) fun a ha => ?_
     refine wpQuiet_nil ?_
     intro w38 hc39
     have o1 : Ok [] (M) w10.heap.size := Ok.nil _ _
     have o2 : Ok (M) (M) w10.heap.size := (Ok.refl _ _)
     have f1 := f1.chg hc39 o1 o2
     have f2 := f2.chg hc39 o1 o2
     have hM : MS (M) w38 := (hM.chg hc39)
     have hC := hC.trans hc39 (Ok.nil _ _)
     refine wpl_end ?_
     obtain rfl := Option.some.inj H
     exact J18 _ _ (ha.sel (by kernel_rfl)) f1 f2 hC hM
    ·have ha := ha.lit hb37
     have H := ite_f hb37 H
     refine qp 0 (.slice ao1 a0.length cap1) ha rfl rfl rfl (by kernel_rfl) fun a ha => ?_
     refine qp 0 (.int .i64 x11) ha rfl rfl rfl (by kernel_rfl) fun a ha => ?_
     obtain ⟨⟨hx40, hx40'⟩, H⟩ := ite_some H
     obtain ⟨ge41, oe420, cs43, hx40eq, hn46, hR44, hE45⟩ := RSl.elem f1 (Int.toNat x11) (by omega)
     rw [rd_get] at hR44
     obtain ⟨ao47, cap47, rfl, f47⟩ := rS_api_Raw.open hR44
     refine qv (v := .pointer (some ⟨ge41, (oe420 + (Int.toNat x11) * rS_api_Raw.sz), none⟩)) ha rfl rfl rfl (fun w' hs => ix_run (r := rS_api_Raw) (T := 61) ha (by kernel_rfl) (by kernel_rfl) (by rfl) (by rfl) hx40eq hx40 hx40') fun a ha => ?_
     refine qp 0 (.pointer (some ⟨ge41, (oe420 + (Int.toNat x11) * rS_api_Raw.sz) + 1, none⟩)) ha rfl rfl rfl (by kernel_rfl) fun a ha => ?_
     refine qv (v := .int .i64 ((rd a0 x11).Kind)) ha rfl rfl rfl (fun w' hs => ld_run ha rfl (by kernel_rfl) (hs.keep (hE45 1 (.int .i64 ((rd a0 x11).Kind)) (by kernel_rfl)))) fun a ha => ?_
     refine qp 0 (.slice ao2 a1.length cap2) ha rfl rfl rfl (by kernel_rfl) fun a ha => ?_
     refine qp 0 (.int .i64 x11) ha rfl rfl rfl (by kernel_rfl) fun a ha => ?_
     obtain ⟨⟨hx48, hx48'⟩, H⟩ := ite_some H
     obtain ⟨ge49, oe500, cs51, hx48eq, hn54, hR52, hE53⟩ := RSl.elem f2 (Int.toNat x11) (by omega)
     rw [rd_get] at hR52
     obtain ⟨ao55, cap55, rfl, f55⟩ := rS_api_Raw.open hR52
     refine qv (v := .pointer (some ⟨ge49, (oe500 + (Int.toNat x11) * rS_api_Raw.sz), none⟩)) ha rfl rfl rfl (fun w' hs => ix_run (r := rS_api_Raw) (T := 61) ha (by kernel_rfl) (by kernel_rfl) (by rfl) (by rfl) hx48eq hx48 hx48') fun a ha => ?_
     refine qp 0 (.pointer (some ⟨ge49, (oe500 + (Int.toNat x11) * rS_api_Raw.sz) + 1, none⟩)) ha rfl rfl rfl (by kernel_rfl) fun a ha => ?_
     refine qv (v := .int .i64 ((rd a1 x11).Kind)) ha rfl rfl rfl (fun w' hs => ld_run ha rfl (by kernel_rfl) (hs.keep (hE53 1 (.int .i64 ((rd a1 x11).Kind)) (by kernel_rfl)))) fun a ha => ?_
     refine qp 0 (.bool (((rd a0 x11).Kind) != ((rd a1 x11).Kind))) ha rfl rfl rfl (by kernel_rfl) fun a ha => ?_
     refine qp 4 (.bool (((rd a0 x11).Kind) != ((rd a1 x11).Kind))) ha rfl rfl rfl (by kernel_rfl) fun a ha => ?_
     refine qp 0 (.bool (((rd a0 x11).Kind) != ((rd a1 x11).Kind))) ha rfl rfl rfl (by kernel_rfl) fun a ha => ?_
     have ha := ha.sel (env' := [(41, .bool (((rd a0 x11).Kind) != ((rd a1 x11).Kind))), (0, .slice ao1 a0.length cap1), (1, .slice ao2 a1.length cap2), (5, .int .i64 x11)]) (by kernel_rfl)
     rcases Bool.eq_false_or_eq_true (((rd a0 x11).Kind) != ((rd a1 x11).Kind)) with hb56 | hb56
     ·have ha := ha.lit hb56
      have H := ite_t hb56 H
      refine qo ha rfl rfl rfl fun a ha => ?_
      refine qo ha rfl rfl rfl fun a ha => ?_
      refine qo ha rfl rfl rfl fun a ha => ?_
      refine qo ha rfl rfl rfl fun a ha => ?_
      refine qo ha rfl rfl rfl fun a ha => ?_
      refine qo ha rfl rfl rfl fun a ha => ?_
      refine qo ha rfl rfl rfl fun a ha => ?_
      refine qo ha rfl rfl rfl fun a ha => ?_
      refine qo ha rfl rfl rfl fun a ha => ?_
      refine qo ha rfl rfl rfl fun a ha => ?_
      refine qo ha rfl rfl rfl fun a ha => ?_
      refine qo ha rfl rfl rfl fun a ha => ?_
      refine qo ha rfl rfl rfl fun a ha => ?_
      refine qp 3 (.bool true) ha rfl rfl rfl (by kernel_rfl) fun a ha => ?_
      refine wpQuiet_nil ?_
      intro w57 hc58
      have o1 : Ok [] (M) w10.heap.size := Ok.nil _ _
      have o2 : Ok (M) (M) w10.heap.size := (Ok.refl _ _)
      have f1 := f1.chg hc58 o1 o2
      have f2 := f2.chg hc58 o1 o2
      have hM : MS (M) w57 := (hM.chg hc58)
      have hC := hC.trans hc58 (Ok.nil _ _)
      refine wpl_end ?_
      obtain rfl := Option.some.inj H
      exact J18 _ _ (ha.sel (by kernel_rfl)) f1 f2 hC hM
     ·have ha := ha.lit hb56
      have H := ite_f hb56 H
      refine qp 0 (.slice ao1 a0.length cap1) ha rfl rfl rfl (by kernel_rfl) fun a ha => ?_
      refine qp 0 (.int .i64 x11) ha rfl rfl rfl (by kernel_rfl) fun a ha => ?_
      obtain ⟨⟨hx59, hx59'⟩, H⟩ := ite_some H
      obtain ⟨ge60, oe610, cs62, hx59eq, hn65, hR63, hE64⟩ := RSl.elem f1 (Int.toNat x11) (by omega)
      rw [rd_get] at hR63
      obtain ⟨ao66, cap66, rfl, f66⟩ := rS_api_Raw.open hR63
      refine qv (v := .pointer (some ⟨ge60, (oe610 + (Int.toNat x11) * rS_api_Raw.sz), none⟩)) ha rfl rfl rfl (fun w' hs => ix_run (r := rS_api_Raw) (T := 61) ha (by kernel_rfl) (by kernel_rfl) (by rfl) (by rfl) hx59eq hx59 hx59') fun a ha => ?_
      refine qp 0 (.pointer (some ⟨ge60, (oe610 + (Int.toNat x11) * rS_api_Raw.sz) + 2, none⟩)) ha rfl rfl rfl (by kernel_rfl) fun a ha => ?_
      refine qv (v := .slice ao66 ((rd a0 x11).Value).length cap66) ha rfl rfl rfl (fun w' hs => ld_run ha rfl (by kernel_rfl) (hs.keep (hE64 2 (.slice ao66 ((rd a0 x11).Value).length cap66) (by kernel_rfl)))) fun a ha => ?_
      refine qv (v := .string (bstr (b2s ((rd a0 x11).Value)))) ha rfl rfl rfl (fun w' hs => cvs_run ha rfl (by kernel_rfl) (by kernel_rfl) (by kernel_rfl) (RSl.chg (M' := []) f66 hs (Ok.nil _ _) (Ok.nil _ _))) fun a ha => ?_
      refine qp 0 (.slice ao2 a1.length cap2) ha rfl rfl rfl (by kernel_rfl) fun a ha => ?_
      refine qp 0 (.int .i64 x11) ha rfl rfl rfl (by kernel_rfl) fun a ha => ?_
      obtain ⟨⟨hx67, hx67'⟩, H⟩ := ite_some H
      obtain ⟨ge68, oe690, cs70, hx67eq, hn73, hR71, hE72⟩ := RSl.elem f2 (Int.toNat x11) (by omega)
      rw [rd_get] at hR71
      obtain ⟨ao74, cap74, rfl, f74⟩ := rS_api_Raw.open hR71
      refine qv (v := .pointer (some ⟨ge68, (oe690 + (Int.toNat x11) * rS_api_Raw.sz), none⟩)) ha rfl rfl rfl (fun w' hs => ix_run (r := rS_api_Raw) (T := 61) ha (by kernel_rfl) (by kernel_rfl) (by rfl) (by rfl) hx67eq hx67 hx67') fun a ha => ?_
      refine qp 0 (.pointer (some ⟨ge68, (oe690 + (Int.toNat x11) * rS_api_Raw.sz) + 2, none⟩)) ha rfl rfl rfl (by kernel_rfl) fun a ha => ?_
      refine qv (v := .slice ao74 ((rd a1 x11).Value).length cap74) ha rfl rfl rfl (fun w' hs => ld_run ha rfl (by kernel_rfl) (hs.keep (hE72 2 (.slice ao74 ((rd a1 x11).Value).length cap74) (by kernel_rfl)))) fun a ha => ?_
      refine qv (v := .string (bstr (b2s ((rd a1 x11).Value)))) ha rfl rfl rfl (fun w' hs => cvs_run ha rfl (by kernel_rfl) (by kernel_rfl) (by kernel_rfl) (RSl.chg (M' := []) f74 hs (Ok.nil _ _) (Ok.nil _ _))) fun a ha => ?_
      refine qp 0 (.bool (!((bstr (b2s ((rd a0 x11).Value))).toList == (bstr (b2s ((rd a1 x11).Value))).toList))) ha rfl rfl rfl (by kernel_rfl) fun a ha => ?_
      refine qp 4 (.bool (!((bstr (b2s ((rd a0 x11).Value))).toList == (bstr (b2s ((rd a1 x11).Value))).toList))) ha rfl rfl rfl (by kernel_rfl) fun a ha => ?_
      refine wpQuiet_nil ?_
      intro w75 hc76
      have o1 : Ok [] (M) w10.heap.size := Ok.nil _ _
      have o2 : Ok (M) (M) w10.heap.size := (Ok.refl _ _)
      have f1 := f1.chg hc76 o1 o2
      have f2 := f2.chg hc76 o1 o2
      have f66 := f66.chg hc76 o1 o2
      have f74 := f74.chg hc76 o1 o2
      have q_hn65 : ge60 ∉ M := fun h => (o2 ge60 h).elim hn65 (fun h => absurd (lt_cell (hE64 0 _ rfl)) (Nat.not_lt.2 h))
      have hE64 : ∀ j v, (cS_api_Raw (rd a0 x11) ao66 cap66)[j]? = some v → w75.cell? ⟨ge60, (oe610 + (Int.toNat x11) * rS_api_Raw.sz) + j, none⟩ = some v := fun j v hv => (cell_keep hc76 o1 hn65 (hE64 j v hv))
      have hn65 := q_hn65
      have q_hn73 : ge68 ∉ M := fun h => (o2 ge68 h).elim hn73 (fun h => absurd (lt_cell (hE72 0 _ rfl)) (Nat.not_lt.2 h))
      have hE72 : ∀ j v, (cS_api_Raw (rd a1 x11) ao74 cap74)[j]? = some v → w75.cell? ⟨ge68, (oe690 + (Int.toNat x11) * rS_api_Raw.sz) + j, none⟩ = some v := fun j v hv => (cell_keep hc76 o1 hn73 (hE72 j v hv))
      have hn73 := q_hn73
      have hM : MS (M) w75 := (hM.chg hc76)
      have hC := hC.trans hc76 (Ok.nil _ _)
      refine wpl_end ?_
      obtain rfl := Option.some.inj H
      exact J18 _ _ (ha.sel (by kernel_rfl)) f1 f2 hC hM
   ·have H := ite_f hc15 H
    refine wp_exit ?_
    simp only [Exit.then, Exit.inBlock, ↓reduceIte, Nat.reduceEqDiff]
    obtain rfl := Option.some.inj H
    exact J10 _ _ _ rfl (ha.sel (by kernel_rfl)) hC hM

def vineryref01_Open.f (a0 : List Int) : Option (S_vineryref01_Reader) := (if (([] : List Int).length + a0.length) * 1 ≤ 140737488355328 then some (((⟨(([] : List Int) ++ a0), (0 : Int), false⟩ : S_vineryref01_Reader) : S_vineryref01_Reader)) else none)
set_option maxRecDepth 100000 in
theorem vineryref01_Open.walk (w : World) (M : List Nat) (hM : MS M w) (a0 : List Int) (ao1 : Option Addr) (cap1 : Nat) (f1 : RSl (rInt .u8) 5 w M ao1 cap1 a0) (r : S_vineryref01_Reader) (H : vineryref01_Open.f a0 = some r) :
    To Tryd.prog 60 [.slice ao1 a0.length cap1] w fun v w' => ∃ (g16 : Nat) (ao18 : Option Addr) (cap18 : Nat), v = .pointer (some ⟨g16, 0, none⟩) ∧ (RSl (rInt .u8) 5 w' ([g16] ++ (M)) ao18 cap18 r.B) ∧ (Box w' g16 (cS_vineryref01_Reader r ao18 cap18)) ∧ (∀ x ∈ [g16], w.heap.size ≤ x) ∧ Chg [] w w' ∧ MS ([g16] ++ (M)) w' := by
 unfold vineryref01_Open.f at H
 refine ent Tryd.func60 rfl [(0, .slice ao1 a0.length cap1)] rfl (by rfl) fun a ha => ?_
 have hC : Chg [] w w := Chg.refl _ _
 refine wp_seq_k fun K2 hK2 => ?_
 refine wp_region_lit ?_
 refine seg ha 1 [(0, .slice ao1 a0.length cap1)] (by kernel_rfl) fun a ha => ?_
 refine hK2 _ _ ?_; try clear hK2 K2
 refine wp_seq_k fun K3 hK3 => ?_
 refine wp_region_lit ?_
 refine bsl (vals := ([] : List Value)) (T := 5) ha rfl ([] : List Value) (fun w => by kernel_rfl) rfl rfl rfl fun a w4 g5 hN6 ha => ?_
 have o1 : Ok [] (M) w.heap.size := Ok.nil _ _
 have o2 : Ok ([g5] ++ (M)) (M) w.heap.size := (Ok.app (hN6.ok _) (Ok.refl _ _))
 have f1 := f1.chg hN6.chg o1 o2
 have p_i7_M : ∀ x ∈ [g5], x ∉ M := fun x hx hy => absurd (hM x (hy)) (Nat.not_lt.2 ((hN6.ge1) x hx))
 have e_i7 : ∀ x ∈ [g5], w.heap.size ≤ x := fun x hx => Nat.le_trans hC.size ((hN6.ge1) x hx)
 have hM : MS ([g5] ++ (M)) w4 := (MS.app hN6.ms (hM.chg hN6.chg))
 have hC := hC.trans hN6.chg (Ok.nil _ _)
 have f8 : Own (rInt .u8) 5 w4 ([g5] ++ (M)) (some ⟨g5, 0, none⟩) 0 ([] : List Int) := hN6.own rfl (Nat.le_of_ble_eq_true rfl)
 refine seg ha 1 [(3, .slice (some ⟨g5, 0, none⟩) ([] : List Int).length 0), (4, .slice ao1 a0.length cap1)] (by kernel_rfl) fun a ha => ?_
 obtain ⟨hx9, H⟩ := ite_some H
 refine app (r := (rInt .u8)) (xs := ([] : List Int)) (ys := a0) ha (ElemT.mk' (bytes := 1) (by kernel_rfl)) rfl rfl rfl rfl rfl f8 f1.src hx9 (by decide) fun a w10 ao11 cap11 hO11 hc11 hk11 hl11 ha => ?_
 have o1 : Ok [g5] ([g5] ++ (M)) w4.heap.size := (fun _ h => .inl (ml h))
 have o2 : Ok (blkL ao11 ++ (M)) ([g5] ++ (M)) w4.heap.size := (Ok.app (Ok.to hk11 (fun _ h => ml h)) (fun _ h => .inl (mr (h))))
 have f1 := f1.chg hc11 o1 o2
 have p_i11_M : ∀ x ∈ blkL ao11, x ∉ M := fun x hx hy => (hk11 x hx).elim (fun h => p_i7_M x h hy) (fun h => absurd (hM x (mr (hy))) (Nat.not_lt.2 h))
 have e_i11 : ∀ x ∈ blkL ao11, w.heap.size ≤ x := fun x hx => (hk11 x hx).elim (e_i7 x) (Nat.le_trans hC.size)
 have hM : MS (blkL ao11 ++ (M)) w10 := (MS.app hl11 (fun x h => hM.chg hc11 x (mr (h))))
 have hC := hC.trans hc11 (fun x h => .inr (e_i7 x h))
 have f11 := hO11.chg (M' := blkL ao11 ++ (M)) (Chg.refl [] _) (Ok.nil _ _) (Ok.app (fun _ h => .inl (ml h)) (Ok.to (fun _ h => .inl (mr (h))) (fun _ h => mr h))) (fun _ _ h => nomatch h) (fun _ h => ml h)
 refine opk (v := .agg (cS_vineryref01_Reader (⟨(([] : List Int) ++ a0), (0 : Int), false⟩ : S_vineryref01_Reader) ao11 cap11).toArray) ha rfl rfl rfl rfl rfl (fun w => by kernel_rfl) fun a ha => ?_
 have fz := f11.toRSl (M' := M) (fun _ h => .inl (mr (h))) (fun x hx hm => p_i11_M x hx hm)
 have hM : MS (M) w10 := (fun x h => hM.chg (Chg.refl [] _) x (mr (h)))
 have f11 := fz
 refine bx (cs := (cS_vineryref01_Reader (⟨(([] : List Int) ++ a0), (0 : Int), false⟩ : S_vineryref01_Reader) ao11 cap11)) ha rfl rfl rfl rfl rfl fun a w12 g13 hN14 ha => ?_
 have o1 : Ok [] (M) w10.heap.size := Ok.nil _ _
 have o2 : Ok ([g13] ++ (M)) (M) w10.heap.size := (Ok.app (hN14.ok _) (Ok.refl _ _))
 have f11 := f11.chg hN14.chg o1 o2
 have p_i15_M : ∀ x ∈ [g13], x ∉ M := fun x hx hy => absurd (hM x (hy)) (Nat.not_lt.2 ((hN14.ge1) x hx))
 have e_i15 : ∀ x ∈ [g13], w.heap.size ≤ x := fun x hx => Nat.le_trans hC.size ((hN14.ge1) x hx)
 have hM : MS ([g13] ++ (M)) w12 := (MS.app hN14.ms (hM.chg hN14.chg))
 have hC := hC.trans hN14.chg (Ok.nil _ _)
 have hBg13 : Box w12 g13 (cS_vineryref01_Reader (⟨(([] : List Int) ++ a0), (0 : Int), false⟩ : S_vineryref01_Reader) ao11 cap11) := hN14.box
 refine seg ha 1 [(2, .pointer (some ⟨g13, 0, none⟩))] (by kernel_rfl) fun a ha => ?_
 refine hK3 _ _ ?_; try clear hK3 K3
 refine wp_ret ?_
 try simp only [Exit.then, Exit.inBlock]
 obtain rfl := Option.some.inj H
 refine rt1 ha rfl rfl ?_
 exact ⟨g13, ao11, cap11, rfl, f11, hBg13, e_i15, hC, hM⟩
def vineryref01_Reader_Left.f (a0 : S_vineryref01_Reader) : Option (Int) := (if a0.No = true then some (((0 : Int) : Int)) else some ((IntKind.i64.wrap ((a0.B.length : Int) - a0.At) : Int)))
set_option maxRecDepth 100000 in
theorem vineryref01_Reader_Left.walk (w : World) (M : List Nat) (hM : MS M w) (gp0 : Nat) (a0 : S_vineryref01_Reader) (ao1 : Option Addr) (cap1 : Nat) (f1 : RSl (rInt .u8) 5 w M ao1 cap1 a0.B) (hBgp0 : Box w gp0 (cS_vineryref01_Reader a0 ao1 cap1)) (hg_gp0 : gp0 ∈ M) (r : Int) (H : vineryref01_Reader_Left.f a0 = some r) :
    To Tryd.prog 61 [.pointer (some ⟨gp0, 0, none⟩)] w fun v w' => v = .int .i64 r ∧ Chg [] w w' ∧ MS (M) w' := by
 unfold vineryref01_Reader_Left.f at H
 refine ent Tryd.func61 rfl [(0, .pointer (some ⟨gp0, 0, none⟩))] rfl (by rfl) fun a ha => ?_
 have hC : Chg [] w w := Chg.refl _ _
 refine wp_seq_k fun K2 hK2 => ?_
 refine wp_region_lit ?_
 refine seg ha 1 [(0, .pointer (some ⟨gp0, 0, none⟩))] (by kernel_rfl) fun a ha => ?_
 refine hK2 _ _ ?_; try clear hK2 K2
 refine wp_seq_k fun K3 hK3 => ?_
 refine wp_seq_k fun K4 hK4 => ?_
 refine wp_region_lit ?_
 refine seg ha 3 [(0, .pointer (some ⟨gp0, 0, none⟩)), (5, .pointer (some ⟨gp0, 2, none⟩))] (by kernel_rfl) fun a ha => ?_
 refine ld (v := .bool a0.No) ha rfl (by kernel_rfl) rfl rfl rfl (hBgp0.cell' (o := 2) rfl (by kernel_rfl)) fun a ha => ?_
 refine hK4 _ _ ?_; try clear hK4 K4
 refine cnd ha rfl (fun hc5 => ?_) (fun hc5 => ?_)
 ·have H := ite_t hc5 H
  refine wp_seq_k fun K6 hK6 => ?_
  refine wp_region_lit ?_
  refine seg ha 1 [(2, .int .i64 (0 : Int))] (by kernel_rfl) fun a ha => ?_
  refine hK6 _ _ ?_; try clear hK6 K6
  refine wp_ret ?_
  try simp only [Exit.then, Exit.inBlock]
  obtain rfl := Option.some.inj H
  refine rt1 ha rfl rfl ?_
  exact ⟨rfl, hC, hM⟩
 ·have H := ite_f hc5 H
  refine wp_skip ?_
  refine hK3 _ _ ?_; try clear hK3 K3
  refine wp_seq_k fun K7 hK7 => ?_
  refine drq0 (fun w' => Chg [] w w') (by kernel_rfl) (by kernel_rfl) (fun _ h => h) ?_
  refine qp 0 (.pointer (some ⟨gp0, 0, none⟩)) ha rfl rfl rfl (by kernel_rfl) fun a ha => ?_
  refine qp 0 (.pointer (some ⟨gp0, 0, none⟩)) ha rfl rfl rfl (by kernel_rfl) fun a ha => ?_
  refine qp 0 (.pointer (some ⟨gp0, 0, none⟩)) ha rfl rfl rfl (by kernel_rfl) fun a ha => ?_
  refine qv (v := .slice ao1 a0.B.length cap1) ha rfl rfl rfl (fun w' hs => ld_run ha rfl (by kernel_rfl) ((Box.chg hBgp0 hs (fun h => nomatch h)).cell' (o := 0) rfl (by kernel_rfl))) fun a ha => ?_
  refine qp 0 (.int .i64 (a0.B.length : Int)) ha rfl rfl rfl (by kernel_rfl) fun a ha => ?_
  refine qp 0 (.pointer (some ⟨gp0, 0, none⟩)) ha rfl rfl rfl (by kernel_rfl) fun a ha => ?_
  refine qp 0 (.pointer (some ⟨gp0, 0, none⟩)) ha rfl rfl rfl (by kernel_rfl) fun a ha => ?_
  refine qp 0 (.pointer (some ⟨gp0, 1, none⟩)) ha rfl rfl rfl (by kernel_rfl) fun a ha => ?_
  refine qv (v := .int .i64 a0.At) ha rfl rfl rfl (fun w' hs => ld_run ha rfl (by kernel_rfl) ((Box.chg hBgp0 hs (fun h => nomatch h)).cell' (o := 1) rfl (by kernel_rfl))) fun a ha => ?_
  refine qp 0 (.int .i64 (IntKind.i64.wrap ((a0.B.length : Int) - a0.At))) ha rfl rfl rfl (by kernel_rfl) fun a ha => ?_
  refine qp 0 (.int .i64 (IntKind.i64.wrap ((a0.B.length : Int) - a0.At))) ha rfl rfl rfl (by kernel_rfl) fun a ha => ?_
  refine wpQuiet_nil ?_
  intro w8 hc9
  have o1 : Ok [] (M) w.heap.size := Ok.nil _ _
  have o2 : Ok (M) (M) w.heap.size := (Ok.refl _ _)
  have f1 := f1.chg hc9 o1 o2
  have hBgp0 := hBgp0.chg hc9 (fun h => nomatch h)
  have hM : MS (M) w8 := (hM.chg hc9)
  have hC := hC.trans hc9 (Ok.nil _ _)
  refine wpl_end ?_
  refine hK7 _ _ ?_; try clear hK7 K7
  refine wp_ret ?_
  try simp only [Exit.then, Exit.inBlock]
  obtain rfl := Option.some.inj H
  refine rt1 ha rfl rfl ?_
  exact ⟨rfl, hC, hM⟩
def vineryref01_Reader_Take.f (a0 : S_vineryref01_Reader) (a1 : Int) : Option (List Int × S_vineryref01_Reader) := ((if a0.No = true then some (true : Bool) else (if (decide (a1 < (0 : Int))) = true then some (true : Bool) else some (decide (a1 > (IntKind.i64.wrap ((a0.B.length : Int) - a0.At))) : Bool)))).bind fun s5 => (if s5 = true then some ((([] : List Int) : List Int), ((⟨a0.B, a0.At, true⟩ : S_vineryref01_Reader) : S_vineryref01_Reader)) else (if 0 ≤ a0.At ∧ a0.At ≤ (IntKind.i64.wrap (a0.At + a1)) ∧ (IntKind.i64.wrap (a0.At + a1)) ≤ (a0.B.length : Int) then (if (([] : List Int).length + ((a0.B.take (Int.toNat (IntKind.i64.wrap (a0.At + a1)))).drop (Int.toNat a0.At)).length) * 1 ≤ 140737488355328 then some (((([] : List Int) ++ ((a0.B.take (Int.toNat (IntKind.i64.wrap (a0.At + a1)))).drop (Int.toNat a0.At))) : List Int), ((⟨a0.B, IntKind.i64.wrap (a0.At + a1), a0.No⟩ : S_vineryref01_Reader) : S_vineryref01_Reader)) else none) else none))
set_option maxRecDepth 100000 in
theorem vineryref01_Reader_Take.walk (w : World) (M : List Nat) (hM : MS M w) (gp0 : Nat) (a0 : S_vineryref01_Reader) (ao1 : Option Addr) (cap1 : Nat) (f1 : RSl (rInt .u8) 5 w M ao1 cap1 a0.B) (hBgp0 : Box w gp0 (cS_vineryref01_Reader a0 ao1 cap1)) (hg_gp0 : gp0 ∈ M) (a1 : Int) (r : List Int × S_vineryref01_Reader) (H : vineryref01_Reader_Take.f a0 a1 = some r) :
    To Tryd.prog 63 [.pointer (some ⟨gp0, 0, none⟩), .int .i64 a1] w fun v w' => ∃ (ao39 : Option Addr) (cap39 : Nat) (ao40 : Option Addr) (cap40 : Nat), v = .slice ao39 r.1.length cap39 ∧ (Own (rInt .u8) 5 w' (blkL ao39 ++ (M)) ao39 cap39 r.1) ∧ (RSl (rInt .u8) 5 w' (blkL ao39 ++ (M)) ao40 cap40 r.2.B) ∧ (Box w' gp0 (cS_vineryref01_Reader r.2 ao40 cap40)) ∧ (∀ x ∈ blkL ao39, w.heap.size ≤ x) ∧ Chg [gp0] w w' ∧ MS (blkL ao39 ++ (M)) w' := by
 unfold vineryref01_Reader_Take.f at H
 refine ent Tryd.func63 rfl [(0, .pointer (some ⟨gp0, 0, none⟩)), (1, .int .i64 a1)] rfl (by rfl) fun a ha => ?_
 have hC : Chg [gp0] w w := Chg.refl _ _
 refine wp_seq_k fun K2 hK2 => ?_
 refine wp_region_lit ?_
 refine seg ha 1 [(0, .pointer (some ⟨gp0, 0, none⟩)), (1, .int .i64 a1)] (by kernel_rfl) fun a ha => ?_
 refine hK2 _ _ ?_; try clear hK2 K2
 refine wp_seq_k fun K3 hK3 => ?_
 refine wp_seq_k fun K4 hK4 => ?_
 refine drq0 (fun w' => Chg [] w w') (by kernel_rfl) (by kernel_rfl) (fun _ h => h) ?_
 obtain ⟨s5, H5, H⟩ := bind_some H
 have J5 : ∀ (a : Act) (w5 : World), Has a Tryd.f63.ntmps [(0, .pointer (some ⟨gp0, 0, none⟩)), (1, .int .i64 a1), (27, .bool s5)] → (RSl (rInt .u8) 5 w5 (M) ao1 cap1 a0.B) → (Box w5 gp0 (cS_vineryref01_Reader a0 ao1 cap1)) → (Chg [gp0] w w5) → (MS (M) w5) → K4 a w5 := by
  intro a w5 ha f1 hBgp0 hC hM
  refine hK4 _ _ ?_; try clear hK4 K4
  refine cnd ha rfl (fun hc6 => ?_) (fun hc6 => ?_)
  ·have H := ite_t hc6 H
   refine wp_seq_k fun K7 hK7 => ?_
   refine wp_region_lit ?_
   refine seg ha 3 [(30, .pointer (some ⟨gp0, 2, none⟩))] (by kernel_rfl) fun a ha => ?_
   refine st ha rfl rfl rfl (by kernel_rfl) rfl rfl hBgp0 (Nat.le_of_ble_eq_true (by kernel_rfl)) fun a w8 ha hb2 hc9 _ => ?_
   have o1 : Ok [gp0] (M) w5.heap.size := Ok.one (.inl (hg_gp0))
   have o2 : Ok (M) (M) w5.heap.size := (Ok.refl _ _)
   have f1 := f1.chg hc9 o1 o2
   have hM : MS (M) w8 := (hM.chg hc9)
   have hC := hC.trans hc9 (Ok.one (.inl (by simp)))
   have hBgp0 : Box w8 gp0 (cS_vineryref01_Reader (⟨a0.B, a0.At, true⟩ : S_vineryref01_Reader) ao1 cap1) := hb2
   refine hK7 _ _ ?_; try clear hK7 K7
   refine wp_seq_k fun K10 hK10 => ?_
   refine wp_region_lit ?_
   refine seg ha 1 [(4, .slice none 0 0)] (by kernel_rfl) fun a ha => ?_
   refine hK10 _ _ ?_; try clear hK10 K10
   refine wp_ret ?_
   try simp only [Exit.then, Exit.inBlock]
   have o1 : Ok [] (M) w8.heap.size := Ok.nil _ _
   have o2 : Ok (blkL none ++ (M)) (M) w8.heap.size := (Ok.app (fun _ h => nomatch h) (Ok.refl _ _))
   have f1 := f1.chg (Chg.refl [] _) o1 o2
   have p_z11_M : ∀ x ∈ blkL none, x ∉ M := fun x hx hy => absurd (hM x (hy)) (Nat.not_lt.2 ((fun _ h => nomatch h) x hx))
   have e_z11 : ∀ x ∈ blkL none, w.heap.size ≤ x := fun x hx => Nat.le_trans hC.size ((fun _ h => nomatch h) x hx)
   have hM : MS (blkL none ++ (M)) w8 := (MS.app (fun _ h => nomatch h) (hM.chg (Chg.refl [] _)))
   obtain rfl := Option.some.inj H
   refine rt1 ha rfl rfl ?_
   exact ⟨none, 0, ao1, cap1, rfl, Own.nil, f1, hBgp0, e_z11, hC, hM⟩
  ·have H := ite_f hc6 H
   refine wp_skip ?_
   refine hK3 _ _ ?_; try clear hK3 K3
   refine wp_seq_k fun K12 hK12 => ?_
   have okS : Ok [] (M) w5.heap.size := Ok.nil _ _
   have z_f1 := f1
   have z_hBgp0 := hBgp0
   refine drw (fun w' => Chg [] w5 w') (by kernel_rfl) fun w13 hc14 _ => ?_
   have hS : Chg [] w5 w13 := (Chg.refl [] _).trans hc14 (Ok.nil _ _)
   have o1 : Ok [] (M) w5.heap.size := Ok.nil _ _
   have o2 : Ok (M) (M) w5.heap.size := (Ok.refl _ _)
   have f1 := f1.chg hc14 o1 o2
   have hBgp0 := hBgp0.chg hc14 (fun h => nomatch h)
   have hM : MS (M) w13 := (hM.chg hc14)
   have hC := hC.trans hc14 (Ok.nil _ _)
   refine tkpz 1 0 (.pointer (some ⟨gp0, 0, none⟩)) ha (s := hS) (q := fun a ha => ?_)
   refine tkpz 2 0 (.pointer (some ⟨gp0, 0, none⟩)) ha (s := hS) (q := fun a ha => ?_)
   refine tkpz 3 0 (.pointer (some ⟨gp0, 0, none⟩)) ha (s := hS) (q := fun a ha => ?_)
   refine tkz 4 ha (v := .slice ao1 a0.B.length cap1) (y := fun w' hs => ld_run ha rfl (by kernel_rfl) ((Box.chg z_hBgp0 hs (fun h => nomatch h)).cell' (o := 0) rfl (by kernel_rfl))) (s := hS) (q := fun a ha => ?_)
   refine tkpz 5 0 (.pointer (some ⟨gp0, 0, none⟩)) ha (s := hS) (q := fun a ha => ?_)
   refine tkpz 6 0 (.pointer (some ⟨gp0, 0, none⟩)) ha (s := hS) (q := fun a ha => ?_)
   refine tkpz 7 0 (.pointer (some ⟨gp0, 1, none⟩)) ha (s := hS) (q := fun a ha => ?_)
   refine tkz 8 ha (v := .int .i64 a0.At) (y := fun w' hs => ld_run ha rfl (by kernel_rfl) ((Box.chg z_hBgp0 hs (fun h => nomatch h)).cell' (o := 1) rfl (by kernel_rfl))) (s := hS) (q := fun a ha => ?_)
   refine tkpz 9 0 (.pointer (some ⟨gp0, 0, none⟩)) ha (s := hS) (q := fun a ha => ?_)
   refine tkpz 10 0 (.pointer (some ⟨gp0, 0, none⟩)) ha (s := hS) (q := fun a ha => ?_)
   refine tkpz 11 0 (.pointer (some ⟨gp0, 1, none⟩)) ha (s := hS) (q := fun a ha => ?_)
   refine tkz 12 ha (v := .int .i64 a0.At) (y := fun w' hs => ld_run ha rfl (by kernel_rfl) ((Box.chg z_hBgp0 hs (fun h => nomatch h)).cell' (o := 1) rfl (by kernel_rfl))) (s := hS) (q := fun a ha => ?_)
   refine tkpz 13 0 (.int .i64 a1) ha (s := hS) (q := fun a ha => ?_)
   refine tkpz 14 0 (.int .i64 (IntKind.i64.wrap (a0.At + a1))) ha (s := hS) (q := fun a ha => ?_)
   obtain ⟨⟨hx15, hx15', hx15''⟩, H⟩ := ite_some H
   obtain ⟨ao16, cap16, z_f16, hr16⟩ := slc_run (r := (rInt .u8)) (t := 25) (lo := (Option.some (Operand.tmp 39))) (hi := (Option.some (Operand.tmp 45))) (l := a0.At) (h := (IntKind.i64.wrap (a0.At + a1))) (dd := some 46) (ty := 25) (pos := "ref.go:22") (af := #[{ on := 4, ground := Ground.data }, { on := 8, ground := Ground.data }, { on := 14, ground := Ground.data }]) (gd := Option.none) ha (by kernel_rfl) (by kernel_rfl) (x := (Operand.tmp 35)) rfl rfl rfl z_f1 hx15 hx15' hx15''
   refine tkz 15 ha (v := .slice ao16 ((a0.B.take (Int.toNat (IntKind.i64.wrap (a0.At + a1)))).drop (Int.toNat a0.At)).length cap16) (y := fun w' _ => hr16 w') (s := hS) (q := fun a ha => ?_)
   have f16 := RSl.chg z_f16 hS okS (Ok.refl _ _)
   refine ac 0 (by kernel_rfl) (by rfl) fun K17 hK17 => ?_
   refine bsl (vals := ([] : List Value)) (T := 5) ha rfl ([] : List Value) (fun w => by kernel_rfl) rfl rfl rfl fun a w18 g19 hN20 ha => ?_
   have o1 : Ok [] (M) w13.heap.size := Ok.nil _ _
   have o2 : Ok ([g19] ++ (M)) (M) w13.heap.size := (Ok.app (hN20.ok _) (Ok.refl _ _))
   have f1 := f1.chg hN20.chg o1 o2
   have f16 := f16.chg hN20.chg o1 o2
   have hBgp0 := hBgp0.chg hN20.chg (fun h => nomatch h)
   have p_iD000021_M : ∀ x ∈ [g19], x ∉ M := fun x hx hy => absurd (hM x (hy)) (Nat.not_lt.2 ((hN20.ge1) x hx))
   have e_iD000021 : ∀ x ∈ [g19], w.heap.size ≤ x := fun x hx => Nat.le_trans hC.size ((hN20.ge1) x hx)
   have hM : MS ([g19] ++ (M)) w18 := (MS.app hN20.ms (hM.chg hN20.chg))
   have hC := hC.trans hN20.chg (Ok.nil _ _)
   have d_iD000021 : Ok ([g19]) [] w5.heap.size := fun x hx => .inr (Nat.le_trans hS.size ((hN20.ge1) x hx))
   have hS := hS.trans hN20.chg (Ok.nil _ _)
   have f22 : Own (rInt .u8) 5 w18 ([g19] ++ (M)) (some ⟨g19, 0, none⟩) 0 ([] : List Int) := hN20.own rfl (Nat.le_of_ble_eq_true rfl)
   refine ae hK17 hS ?_; clear hK17 K17
   refine ac 16 (by kernel_rfl) (by rfl) fun K23 hK23 => ?_
   obtain ⟨hx24, H⟩ := ite_some H
   refine app (r := (rInt .u8)) (xs := ([] : List Int)) (ys := ((a0.B.take (Int.toNat (IntKind.i64.wrap (a0.At + a1)))).drop (Int.toNat a0.At))) ha (ElemT.mk' (bytes := 1) (by kernel_rfl)) rfl rfl rfl rfl rfl f22 f16.src hx24 (by decide) fun a w25 ao26 cap26 hO26 hc26 hk26 hl26 ha => ?_
   have o1 : Ok [g19] ([g19] ++ (M)) w18.heap.size := (fun _ h => .inl (ml h))
   have o2 : Ok (blkL ao26 ++ (M)) ([g19] ++ (M)) w18.heap.size := (Ok.app (Ok.to hk26 (fun _ h => ml h)) (fun _ h => .inl (mr (h))))
   have f1 := f1.chg hc26 o1 o2
   have f16 := f16.chg hc26 o1 o2
   have hBgp0 := hBgp0.chg hc26 ((fun x (hx : x ∈ [gp0]) (hy : x ∈ [g19]) => p_iD000021_M x hy (by rw [List.mem_singleton.1 hx]; exact hg_gp0)) gp0 (by simp))
   have p_iD000026_M : ∀ x ∈ blkL ao26, x ∉ M := fun x hx hy => (hk26 x hx).elim (fun h => p_iD000021_M x h hy) (fun h => absurd (hM x (mr (hy))) (Nat.not_lt.2 h))
   have e_iD000026 : ∀ x ∈ blkL ao26, w.heap.size ≤ x := fun x hx => (hk26 x hx).elim (e_iD000021 x) (Nat.le_trans hC.size)
   have hM : MS (blkL ao26 ++ (M)) w25 := (MS.app hl26 (fun x h => hM.chg hc26 x (mr (h))))
   have hC := hC.trans hc26 (fun x h => .inr (e_iD000021 x h))
   have d_iD000026 : Ok (blkL ao26) [] w5.heap.size := fun x hx => (hk26 x hx).elim (fun h => d_iD000021 x h) (fun h => .inr (Nat.le_trans hS.size h))
   have hS := hS.trans hc26 d_iD000021
   have f26 := hO26.chg (M' := blkL ao26 ++ (M)) (Chg.refl [] _) (Ok.nil _ _) (Ok.app (fun _ h => .inl (ml h)) (Ok.to (fun _ h => .inl (mr (h))) (fun _ h => mr h))) (fun _ _ h => nomatch h) (fun _ h => ml h)
   refine ae hK23 hS ?_; clear hK23 K23
   refine tkpz 17 0 (.slice ao26 (([] : List Int) ++ ((a0.B.take (Int.toNat (IntKind.i64.wrap (a0.At + a1)))).drop (Int.toNat a0.At))).length cap26) ha (s := hS) (q := fun a ha => ?_)
   refine dn (by kernel_rfl) ?_
   refine hK12 _ _ ?_; try clear hK12 K12
   refine wp_seq_k fun K27 hK27 => ?_
   refine wp_region_lit ?_
   refine seg ha 4 [(1, .int .i64 a1), (5, .slice ao26 (([] : List Int) ++ ((a0.B.take (Int.toNat (IntKind.i64.wrap (a0.At + a1)))).drop (Int.toNat a0.At))).length cap26), (48, .pointer (some ⟨gp0, 0, none⟩)), (51, .pointer (some ⟨gp0, 1, none⟩))] (by kernel_rfl) fun a ha => ?_
   refine ld (v := .int .i64 a0.At) ha rfl (by kernel_rfl) rfl rfl rfl (hBgp0.cell' (o := 1) rfl (by kernel_rfl)) fun a ha => ?_
   refine seg ha 4 [(5, .slice ao26 (([] : List Int) ++ ((a0.B.take (Int.toNat (IntKind.i64.wrap (a0.At + a1)))).drop (Int.toNat a0.At))).length cap26), (54, .int .i64 (IntKind.i64.wrap (a0.At + a1))), (56, .pointer (some ⟨gp0, 1, none⟩))] (by kernel_rfl) fun a ha => ?_
   refine st ha rfl rfl rfl (by kernel_rfl) rfl rfl hBgp0 (Nat.le_of_ble_eq_true (by kernel_rfl)) fun a w28 ha hb2 hc29 _ => ?_
   have o1 : Ok [gp0] (blkL ao26 ++ (M)) w25.heap.size := Ok.one (.inl (mr (hg_gp0)))
   have o2 : Ok (blkL ao26 ++ (M)) (blkL ao26 ++ (M)) w25.heap.size := (Ok.refl _ _)
   have f26 := f26.chg hc29 o1 o2 (fun x (hx : x ∈ blkL ao26) (hy : x ∈ [gp0]) => p_iD000026_M x hx (by rw [List.mem_singleton.1 hy]; exact hg_gp0)) (fun _ h => ml h)
   have f1 := f1.chg hc29 o1 o2
   have hM : MS (blkL ao26 ++ (M)) w28 := (hM.chg hc29)
   have hC := hC.trans hc29 (Ok.one (.inl (by simp)))
   have hBgp0 : Box w28 gp0 (cS_vineryref01_Reader (⟨a0.B, IntKind.i64.wrap (a0.At + a1), a0.No⟩ : S_vineryref01_Reader) ao1 cap1) := hb2
   refine hK27 _ _ ?_; try clear hK27 K27
   refine wp_seq_k fun K30 hK30 => ?_
   refine wp_region_lit ?_
   refine seg ha 2 [(4, .slice ao26 (([] : List Int) ++ ((a0.B.take (Int.toNat (IntKind.i64.wrap (a0.At + a1)))).drop (Int.toNat a0.At))).length cap26)] (by kernel_rfl) fun a ha => ?_
   refine hK30 _ _ ?_; try clear hK30 K30
   refine wp_ret ?_
   try simp only [Exit.then, Exit.inBlock]
   obtain rfl := Option.some.inj H
   refine rt1 ha rfl rfl ?_
   exact ⟨ao26, cap26, ao1, cap1, rfl, f26, f1, hBgp0, e_iD000026, hC, hM⟩
 have H := H5
 refine qp 0 (.pointer (some ⟨gp0, 0, none⟩)) ha rfl rfl rfl (by kernel_rfl) fun a ha => ?_
 refine qp 0 (.pointer (some ⟨gp0, 0, none⟩)) ha rfl rfl rfl (by kernel_rfl) fun a ha => ?_
 refine qp 0 (.pointer (some ⟨gp0, 2, none⟩)) ha rfl rfl rfl (by kernel_rfl) fun a ha => ?_
 refine qv (v := .bool a0.No) ha rfl rfl rfl (fun w' hs => ld_run ha rfl (by kernel_rfl) ((Box.chg hBgp0 hs (fun h => nomatch h)).cell' (o := 2) rfl (by kernel_rfl))) fun a ha => ?_
 refine qp 0 (.bool a0.No) ha rfl rfl rfl (by kernel_rfl) fun a ha => ?_
 have ha := ha.sel (env' := [(10, .bool a0.No), (0, .pointer (some ⟨gp0, 0, none⟩)), (1, .int .i64 a1)]) (by kernel_rfl)
 rcases Bool.eq_false_or_eq_true (a0.No) with hb31 | hb31
 ·have ha := ha.lit hb31
  have H := ite_t hb31 H
  refine qo ha rfl rfl rfl fun a ha => ?_
  refine qo ha rfl rfl rfl fun a ha => ?_
  refine qp 3 (.bool true) ha rfl rfl rfl (by kernel_rfl) fun a ha => ?_
  refine qp 0 (.bool true) ha rfl rfl rfl (by kernel_rfl) fun a ha => ?_
  refine qo ha rfl rfl rfl fun a ha => ?_
  refine qo ha rfl rfl rfl fun a ha => ?_
  refine qo ha rfl rfl rfl fun a ha => ?_
  refine qo ha rfl rfl rfl fun a ha => ?_
  refine qo ha rfl rfl rfl fun a ha => ?_
  refine qo ha rfl rfl rfl fun a ha => ?_
  refine qo ha rfl rfl rfl fun a ha => ?_
  refine qo ha rfl rfl rfl fun a ha => ?_
  refine qo ha rfl rfl rfl fun a ha => ?_
  refine qo ha rfl rfl rfl fun a ha => ?_
  refine qo ha rfl rfl rfl fun a ha => ?_
  refine qo ha rfl rfl rfl fun a ha => ?_
  refine qp 3 (.bool true) ha rfl rfl rfl (by kernel_rfl) fun a ha => ?_
  refine wpQuiet_nil ?_
  intro w32 hc33
  have o1 : Ok [] (M) w.heap.size := Ok.nil _ _
  have o2 : Ok (M) (M) w.heap.size := (Ok.refl _ _)
  have f1 := f1.chg hc33 o1 o2
  have hBgp0 := hBgp0.chg hc33 (fun h => nomatch h)
  have hM : MS (M) w32 := (hM.chg hc33)
  have hC := hC.trans hc33 (Ok.nil _ _)
  refine wpl_end ?_
  obtain rfl := Option.some.inj H
  exact J5 _ _ (ha.sel (by kernel_rfl)) f1 hBgp0 hC hM
 ·have ha := ha.lit hb31
  have H := ite_f hb31 H
  refine qp 0 (.int .i64 a1) ha rfl rfl rfl (by kernel_rfl) fun a ha => ?_
  refine qp 0 (.bool (decide (a1 < (0 : Int)))) ha rfl rfl rfl (by kernel_rfl) fun a ha => ?_
  refine qp 4 (.bool (decide (a1 < (0 : Int)))) ha rfl rfl rfl (by kernel_rfl) fun a ha => ?_
  refine qp 0 (.bool (decide (a1 < (0 : Int)))) ha rfl rfl rfl (by kernel_rfl) fun a ha => ?_
  have ha := ha.sel (env' := [(14, .bool (decide (a1 < (0 : Int)))), (0, .pointer (some ⟨gp0, 0, none⟩)), (1, .int .i64 a1)]) (by kernel_rfl)
  rcases Bool.eq_false_or_eq_true (decide (a1 < (0 : Int))) with hb34 | hb34
  ·have ha := ha.lit hb34
   have H := ite_t hb34 H
   refine qo ha rfl rfl rfl fun a ha => ?_
   refine qo ha rfl rfl rfl fun a ha => ?_
   refine qo ha rfl rfl rfl fun a ha => ?_
   refine qo ha rfl rfl rfl fun a ha => ?_
   refine qo ha rfl rfl rfl fun a ha => ?_
   refine qo ha rfl rfl rfl fun a ha => ?_
   refine qo ha rfl rfl rfl fun a ha => ?_
   refine qo ha rfl rfl rfl fun a ha => ?_
   refine qo ha rfl rfl rfl fun a ha => ?_
   refine qo ha rfl rfl rfl fun a ha => ?_
   refine qo ha rfl rfl rfl fun a ha => ?_
   refine qo ha rfl rfl rfl fun a ha => ?_
   refine qp 3 (.bool true) ha rfl rfl rfl (by kernel_rfl) fun a ha => ?_
   refine wpQuiet_nil ?_
   intro w35 hc36
   have o1 : Ok [] (M) w.heap.size := Ok.nil _ _
   have o2 : Ok (M) (M) w.heap.size := (Ok.refl _ _)
   have f1 := f1.chg hc36 o1 o2
   have hBgp0 := hBgp0.chg hc36 (fun h => nomatch h)
   have hM : MS (M) w35 := (hM.chg hc36)
   have hC := hC.trans hc36 (Ok.nil _ _)
   refine wpl_end ?_
   obtain rfl := Option.some.inj H
   exact J5 _ _ (ha.sel (by kernel_rfl)) f1 hBgp0 hC hM
  ·have ha := ha.lit hb34
   have H := ite_f hb34 H
   refine qp 0 (.int .i64 a1) ha rfl rfl rfl (by kernel_rfl) fun a ha => ?_
   refine qp 0 (.pointer (some ⟨gp0, 0, none⟩)) ha rfl rfl rfl (by kernel_rfl) fun a ha => ?_
   refine qp 0 (.pointer (some ⟨gp0, 0, none⟩)) ha rfl rfl rfl (by kernel_rfl) fun a ha => ?_
   refine qp 0 (.pointer (some ⟨gp0, 0, none⟩)) ha rfl rfl rfl (by kernel_rfl) fun a ha => ?_
   refine qv (v := .slice ao1 a0.B.length cap1) ha rfl rfl rfl (fun w' hs => ld_run ha rfl (by kernel_rfl) ((Box.chg hBgp0 hs (fun h => nomatch h)).cell' (o := 0) rfl (by kernel_rfl))) fun a ha => ?_
   refine qp 0 (.int .i64 (a0.B.length : Int)) ha rfl rfl rfl (by kernel_rfl) fun a ha => ?_
   refine qp 0 (.pointer (some ⟨gp0, 0, none⟩)) ha rfl rfl rfl (by kernel_rfl) fun a ha => ?_
   refine qp 0 (.pointer (some ⟨gp0, 0, none⟩)) ha rfl rfl rfl (by kernel_rfl) fun a ha => ?_
   refine qp 0 (.pointer (some ⟨gp0, 1, none⟩)) ha rfl rfl rfl (by kernel_rfl) fun a ha => ?_
   refine qv (v := .int .i64 a0.At) ha rfl rfl rfl (fun w' hs => ld_run ha rfl (by kernel_rfl) ((Box.chg hBgp0 hs (fun h => nomatch h)).cell' (o := 1) rfl (by kernel_rfl))) fun a ha => ?_
   refine qp 0 (.int .i64 (IntKind.i64.wrap ((a0.B.length : Int) - a0.At))) ha rfl rfl rfl (by kernel_rfl) fun a ha => ?_
   refine qp 0 (.bool (decide (a1 > (IntKind.i64.wrap ((a0.B.length : Int) - a0.At))))) ha rfl rfl rfl (by kernel_rfl) fun a ha => ?_
   refine qp 4 (.bool (decide (a1 > (IntKind.i64.wrap ((a0.B.length : Int) - a0.At))))) ha rfl rfl rfl (by kernel_rfl) fun a ha => ?_
   refine wpQuiet_nil ?_
   intro w37 hc38
   have o1 : Ok [] (M) w.heap.size := Ok.nil _ _
   have o2 : Ok (M) (M) w.heap.size := (Ok.refl _ _)
   have f1 := f1.chg hc38 o1 o2
   have hBgp0 := hBgp0.chg hc38 (fun h => nomatch h)
   have hM : MS (M) w37 := (hM.chg hc38)
   have hC := hC.trans hc38 (Ok.nil _ _)
   refine wpl_end ?_
   obtain rfl := Option.some.inj H
   exact J5 _ _ (ha.sel (by kernel_rfl)) f1 hBgp0 hC hM
def vineryref01_Big.l0 (a0 : List Int) : Nat → Int → Int → Option (Int)
  | 0, _, _ => none
  | kk + 1, x7, x8 => (if (decide (x8 < (a0.length : Int))) = true then (if 0 ≤ x8 ∧ x8 < (a0.length : Int) then vineryref01_Big.l0 a0 kk (IntKind.i64.wrap ((IntKind.i64.wrap (x7 * (256 : Int))) + (IntKind.i64.wrap (rd a0 x8)))) (IntKind.i64.wrap (x8 + (1 : Int))) else none) else some (x7 : Int))
def vineryref01_Big.f (k : Nat) (a0 : List Int) : Option (Int) := (vineryref01_Big.l0 a0 k (0 : Int) (0 : Int)).bind fun s6 => some ((s6 : Int))
set_option maxRecDepth 100000 in
theorem vineryref01_Big.walk (w : World) (M : List Nat) (hM : MS M w) (a0 : List Int) (ao1 : Option Addr) (cap1 : Nat) (f1 : RSl (rInt .u8) 5 w M ao1 cap1 a0) (k : Nat) (r : Int) (H : vineryref01_Big.f k a0 = some r) :
    To Tryd.prog 91 [.slice ao1 a0.length cap1] w fun v w' => v = .int .i64 r ∧ Chg [] w w' ∧ MS (M) w' := by
 unfold vineryref01_Big.f at H
 refine ent Tryd.func91 rfl [(0, .slice ao1 a0.length cap1)] rfl (by rfl) fun a ha => ?_
 have hC : Chg [] w w := Chg.refl _ _
 refine wp_seq_k fun K2 hK2 => ?_
 refine wp_region_lit ?_
 refine seg ha 1 [(0, .slice ao1 a0.length cap1)] (by kernel_rfl) fun a ha => ?_
 refine hK2 _ _ ?_; try clear hK2 K2
 refine wp_seq_k fun K3 hK3 => ?_
 refine wp_region_lit ?_
 refine seg ha 1 [(0, .slice ao1 a0.length cap1), (3, .int .i64 (0 : Int))] (by kernel_rfl) fun a ha => ?_
 refine hK3 _ _ ?_; try clear hK3 K3
 refine wp_seq_k fun K4 hK4 => ?_
 refine wp_seq_k fun K5 hK5 => ?_
 refine wp_region_lit ?_
 refine seg ha 1 [(0, .slice ao1 a0.length cap1), (3, .int .i64 (0 : Int)), (4, .int .i64 (0 : Int))] (by kernel_rfl) fun a ha => ?_
 refine hK5 _ _ ?_; try clear hK5 K5
 refine wp_block ?_
 obtain ⟨s6, H6, H⟩ := bind_some H
 have J6 : ∀ (a : Act) (wx6 : World), Has a Tryd.f91.ntmps [(3, .int .i64 s6)] → (Chg [] w wx6) → (MS (M) wx6) → K4 a wx6 := by
  intro a wx6 ha hC hM
  refine hK4 _ _ ?_; try clear hK4 K4
  refine wp_seq_k fun K9 hK9 => ?_
  refine wp_region_lit ?_
  refine seg ha 2 [(2, .int .i64 s6)] (by kernel_rfl) fun a ha => ?_
  refine hK9 _ _ ?_; try clear hK9 K9
  refine wp_ret ?_
  try simp only [Exit.then, Exit.inBlock]
  obtain rfl := Option.some.inj H
  refine rt1 ha rfl rfl ?_
  exact ⟨rfl, hC, hM⟩
 have Hc6 := H
 have H := H6
 refine wp_loop_ghost (fun kk a w6 => ∃ (x7 : Int) (x8 : Int), vineryref01_Big.l0 a0 kk x7 x8 = some s6 ∧ Has a Tryd.f91.ntmps [(0, .slice ao1 a0.length cap1), (3, .int .i64 x7), (4, .int .i64 x8)] ∧ (RSl (rInt .u8) 5 w6 (M) ao1 cap1 a0) ∧ (Chg [] w w6) ∧ (MS (M) w6)) k ?_ ?_
 ·skip
  exact ⟨(0 : Int), (0 : Int), H, (ha.sel (by kernel_rfl)), f1, hC, hM⟩
 ·rintro kk a w6 ⟨x7, x8, H, ha, f1, hC, hM⟩
  obtain _ | kk := kk
  ·exact nomatch (show none = some _ from H)
  rw [vineryref01_Big.l0] at H
  refine wp_seq_k fun K10 hK10 => ?_
  refine wp_seq_k fun K11 hK11 => ?_
  refine wp_region_lit ?_
  refine seg ha 4 [(0, .slice ao1 a0.length cap1), (3, .int .i64 x7), (4, .int .i64 x8), (8, .bool (decide (x8 < (a0.length : Int))))] (by kernel_rfl) fun a ha => ?_
  refine hK11 _ _ ?_; try clear hK11 K11
  refine cnd ha rfl (fun hc12 => ?_) (fun hc12 => ?_)
  ·have H := ite_t hc12 H
   refine wp_skip ?_
   refine hK10 _ _ ?_; try clear hK10 K10
   refine wp_seq_k fun K13 hK13 => ?_
   refine wp_block ?_
   refine wp_region_lit ?_
   refine seg ha 4 [(0, .slice ao1 a0.length cap1), (4, .int .i64 x8), (12, .int .i64 (IntKind.i64.wrap (x7 * (256 : Int)))), (13, .slice ao1 a0.length cap1), (14, .int .i64 x8)] (by kernel_rfl) fun a ha => ?_
   obtain ⟨⟨hx14, hx14'⟩, H⟩ := ite_some H
   refine ix (r := (rInt .u8)) ha (by kernel_rfl) (by kernel_rfl) rfl rfl rfl rfl rfl f1 hx14 hx14' fun a ge15 oe16 cs17 hn20 hR18 hE19 ha => ?_
   rw [rd_get] at hR18
   obtain rfl := hR18
   have hE19 : ∀ j v, ([.int .u8 (rd a0 x8)] : List Value)[j]? = some v → w6.cell? ⟨ge15, oe16 + j, none⟩ = some v := hE19
   refine ld ha rfl (by kernel_rfl) rfl rfl rfl (hE19 0 (.int .u8 (rd a0 x8)) (by kernel_rfl)) fun a ha => ?_
   refine seg ha 3 [(0, .slice ao1 a0.length cap1), (3, .int .i64 (IntKind.i64.wrap ((IntKind.i64.wrap (x7 * (256 : Int))) + (IntKind.i64.wrap (rd a0 x8))))), (4, .int .i64 x8)] (by kernel_rfl) fun a ha => ?_
   refine hK13 _ _ ?_; try clear hK13 K13
   refine wp_region_lit ?_
   refine seg ha 3 [(0, .slice ao1 a0.length cap1), (3, .int .i64 (IntKind.i64.wrap ((IntKind.i64.wrap (x7 * (256 : Int))) + (IntKind.i64.wrap (rd a0 x8))))), (4, .int .i64 (IntKind.i64.wrap (x8 + (1 : Int))))] (by kernel_rfl) fun a ha => ?_
   exact ⟨kk, Nat.lt_succ_self _, ⟨IntKind.i64.wrap ((IntKind.i64.wrap (x7 * (256 : Int))) + (IntKind.i64.wrap (rd a0 x8))), IntKind.i64.wrap (x8 + (1 : Int)), H, (ha.sel (by kernel_rfl)), f1, hC, hM⟩⟩
  ·have H := ite_f hc12 H
   refine wp_exit ?_
   simp only [Exit.then, Exit.inBlock, ↓reduceIte, Nat.reduceEqDiff]
   obtain rfl := Option.some.inj H
   exact J6 _ _ (ha.sel (by kernel_rfl)) hC hM
def vineryref01_Reader_Num.f (k : Nat) (a0 : S_vineryref01_Reader) (a1 : Int) : Option (Int × S_vineryref01_Reader) := (if (if (decide (a1 < (1 : Int))) = true then true else (decide (a1 > (4 : Int)))) = true then some (((0 : Int) : Int), ((⟨a0.B, a0.At, true⟩ : S_vineryref01_Reader) : S_vineryref01_Reader)) else (vineryref01_Reader_Take.f a0 a1).bind fun t11 => (vineryref01_Big.f k t11.1).bind fun t14 => some ((t14 : Int), (t11.2 : S_vineryref01_Reader)))
set_option maxRecDepth 100000 in
theorem vineryref01_Reader_Num.walk (w : World) (M : List Nat) (hM : MS M w) (gp0 : Nat) (a0 : S_vineryref01_Reader) (ao1 : Option Addr) (cap1 : Nat) (f1 : RSl (rInt .u8) 5 w M ao1 cap1 a0.B) (hBgp0 : Box w gp0 (cS_vineryref01_Reader a0 ao1 cap1)) (hg_gp0 : gp0 ∈ M) (a1 : Int) (k : Nat) (r : Int × S_vineryref01_Reader) (H : vineryref01_Reader_Num.f k a0 a1 = some r) :
    To Tryd.prog 62 [.pointer (some ⟨gp0, 0, none⟩), .int .i64 a1] w fun v w' => ∃ (ao15 : Option Addr) (cap15 : Nat), v = .int .i64 r.1 ∧ (RSl (rInt .u8) 5 w' (M) ao15 cap15 r.2.B) ∧ (Box w' gp0 (cS_vineryref01_Reader r.2 ao15 cap15)) ∧ Chg [gp0] w w' ∧ MS (M) w' := by
 unfold vineryref01_Reader_Num.f at H
 refine ent Tryd.func62 rfl [(0, .pointer (some ⟨gp0, 0, none⟩)), (1, .int .i64 a1)] rfl (by rfl) fun a ha => ?_
 have hC : Chg [gp0] w w := Chg.refl _ _
 refine wp_seq_k fun K2 hK2 => ?_
 refine wp_region_lit ?_
 refine seg ha 1 [(0, .pointer (some ⟨gp0, 0, none⟩)), (1, .int .i64 a1)] (by kernel_rfl) fun a ha => ?_
 refine hK2 _ _ ?_; try clear hK2 K2
 refine wp_seq_k fun K3 hK3 => ?_
 refine wp_seq_k fun K4 hK4 => ?_
 refine wp_region_lit ?_
 refine seg ha 6 [(0, .pointer (some ⟨gp0, 0, none⟩)), (1, .int .i64 a1), (10, .bool (if (decide (a1 < (1 : Int))) = true then true else (decide (a1 > (4 : Int)))))] (by kernel_rfl) fun a ha => ?_
 refine hK4 _ _ ?_; try clear hK4 K4
 refine cnd ha rfl (fun hc5 => ?_) (fun hc5 => ?_)
 ·have H := ite_t hc5 H
  refine wp_seq_k fun K6 hK6 => ?_
  refine wp_region_lit ?_
  refine seg ha 3 [(13, .pointer (some ⟨gp0, 2, none⟩))] (by kernel_rfl) fun a ha => ?_
  refine st ha rfl rfl rfl (by kernel_rfl) rfl rfl hBgp0 (Nat.le_of_ble_eq_true (by kernel_rfl)) fun a w7 ha hb2 hc8 _ => ?_
  have o1 : Ok [gp0] (M) w.heap.size := Ok.one (.inl (hg_gp0))
  have o2 : Ok (M) (M) w.heap.size := (Ok.refl _ _)
  have f1 := f1.chg hc8 o1 o2
  have hM : MS (M) w7 := (hM.chg hc8)
  have hC := hC.trans hc8 (Ok.one (.inl (by simp)))
  have hBgp0 : Box w7 gp0 (cS_vineryref01_Reader (⟨a0.B, a0.At, true⟩ : S_vineryref01_Reader) ao1 cap1) := hb2
  refine hK6 _ _ ?_; try clear hK6 K6
  refine wp_seq_k fun K9 hK9 => ?_
  refine wp_region_lit ?_
  refine seg ha 1 [(4, .int .i64 (0 : Int))] (by kernel_rfl) fun a ha => ?_
  refine hK9 _ _ ?_; try clear hK9 K9
  refine wp_ret ?_
  try simp only [Exit.then, Exit.inBlock]
  obtain rfl := Option.some.inj H
  refine rt1 ha rfl rfl ?_
  exact ⟨ao1, cap1, rfl, f1, hBgp0, hC, hM⟩
 ·have H := ite_f hc5 H
  refine wp_skip ?_
  refine hK3 _ _ ?_; try clear hK3 K3
  refine wp_seq_k fun K10 hK10 => ?_
  refine wp_region_lit ?_
  refine seg ha 2 [(14, .pointer (some ⟨gp0, 0, none⟩)), (15, .int .i64 a1)] (by kernel_rfl) fun a ha => ?_
  obtain ⟨t11, H11, H⟩ := bind_some H
  refine cl ha (by rfl) (by kernel_rfl) (by rfl) (by rfl) (by rfl) (vineryref01_Reader_Take.walk w _ hM gp0 a0 ao1 cap1 f1 hBgp0 (hg_gp0) a1 _ H11) ?_
  rintro _ w11 ⟨ao12, cap12, ao13, cap13, rfl, f12, f13, qhBgp0, ne_i12, hc11, hMn⟩ a ha
  have o1 : Ok [gp0] (M) w.heap.size := Ok.one (.inl (hg_gp0))
  have o2 : Ok (blkL ao12 ++ (M)) (M) w.heap.size := (Ok.app (fun x h => .inr (ne_i12 x h)) (Ok.refl _ _))
  have f1 := f1.chg hc11 o1 o2
  have p_i12_M : ∀ x ∈ blkL ao12, x ∉ M := fun x hx hy => absurd (hM x (hy)) (Nat.not_lt.2 (ne_i12 x hx))
  have e_i12 : ∀ x ∈ blkL ao12, w.heap.size ≤ x := fun x hx => Nat.le_trans hC.size (ne_i12 x hx)
  have hM : MS (blkL ao12 ++ (M)) w11 := (MS.app (fun x h => hMn x (ml h)) (hM.chg hc11))
  have hC := hC.trans hc11 (Ok.one (.inl (by simp)))
  have hBgp0 := qhBgp0
  have hML : MS (M) w11 := MS.rest hM (fun _ h => mr (h))
  have oL : Ok (M) (blkL ao12 ++ (M)) w11.heap.size := (fun _ h => .inl (mr (h)))
  obtain ⟨t14, H14, H⟩ := bind_some H
  refine cl ha (by rfl) (by kernel_rfl) (by rfl) (by rfl) (by rfl) (vineryref01_Big.walk w11 _ hML t11.1 ao12 cap12 (Own.toRSl (M' := M) f12 oL (fun x hx hm => p_i12_M x hx hm)) k _ H14) ?_
  rintro _ w14 ⟨rfl, hc14, hMn⟩ a ha
  have o1 : Ok [] (blkL ao12 ++ (M)) w11.heap.size := Ok.nil _ _
  have o2 : Ok (blkL ao12 ++ (M)) (blkL ao12 ++ (M)) w11.heap.size := (Ok.refl _ _)
  have f12 := f12.chg hc14 o1 o2 (fun _ _ h => nomatch h) (fun _ h => ml h)
  have f13 := f13.chg hc14 o1 o2
  have hBgp0 := hBgp0.chg hc14 (fun h => nomatch h)
  have hM : MS (blkL ao12 ++ (M)) w14 := (hM.chg hc14)
  have hC := hC.trans hc14 (Ok.nil _ _)
  refine seg ha 1 [(4, .int .i64 t14)] (by kernel_rfl) fun a ha => ?_
  refine hK10 _ _ ?_; try clear hK10 K10
  refine wp_ret ?_
  try simp only [Exit.then, Exit.inBlock]
  have o1 : Ok [] (blkL ao12 ++ (M)) w14.heap.size := Ok.nil _ _
  have o2 : Ok (M) (blkL ao12 ++ (M)) w14.heap.size := (fun _ h => .inl (mr (h)))
  have f13 := f13.chg (Chg.refl [] _) o1 o2
  have hM : MS (M) w14 := (fun x h => hM.chg (Chg.refl [] _) x (mr (h)))
  obtain rfl := Option.some.inj H
  refine rt1 ha rfl rfl ?_
  exact ⟨ao13, cap13, rfl, f13, hBgp0, hC, hM⟩
def vineryref09_Split.l0 (k : Nat) : Nat → (List S_api_Raw) → (List Int) → Int → Bool → Option ((List S_api_Raw × Int) ⊕ (List S_api_Raw × List Int × Int × Bool))
  | 0, _, _, _, _ => none
  | kk + 1, x13, x14, x15, x16 => (vineryref01_Reader_Left.f (⟨x14, x15, x16⟩ : S_vineryref01_Reader)).bind fun t23 => (if (decide (t23 > (0 : Int))) = true then (if ((x13.length : Int) == (64 : Int)) = true then some (.inl ((([] : List S_api_Raw) : List S_api_Raw), ((2 : Int) : Int))) else (vineryref01_Reader_Num.f k (⟨x14, x15, x16⟩ : S_vineryref01_Reader) (1 : Int)).bind fun t31 => (vineryref01_Reader_Num.f k t31.2 (1 : Int)).bind fun t34 => ((if ((IntKind.i64.wrap (BitVec.ofInt IntKind.i64.bits t31.1 &&& BitVec.ofInt IntKind.i64.bits (16 : Int)).toNat) != (0 : Int)) = true then some ((2 : Int) : Int) else some ((1 : Int) : Int))).bind fun s38 => (vineryref01_Reader_Num.f k t34.2 s38).bind fun t40 => (vineryref01_Reader_Take.f t40.2 t40.1).bind fun t42 => (if t42.2.No = true then some (.inl ((([] : List S_api_Raw) : List S_api_Raw), ((3 : Int) : Int))) else (if (x13.length + ([(⟨IntKind.i64.wrap (BitVec.ofInt IntKind.i64.bits t31.1 &&& ~~~ BitVec.ofInt IntKind.i64.bits (16 : Int)).toNat, t34.1, t42.1⟩ : S_api_Raw)] : List S_api_Raw).length) * 40 ≤ 140737488355328 then vineryref09_Split.l0 k kk (x13 ++ ([(⟨IntKind.i64.wrap (BitVec.ofInt IntKind.i64.bits t31.1 &&& ~~~ BitVec.ofInt IntKind.i64.bits (16 : Int)).toNat, t34.1, t42.1⟩ : S_api_Raw)] : List S_api_Raw)) t42.2.B t42.2.At t42.2.No else none))) else some (.inr ((x13 : List S_api_Raw), (x14 : List Int), (x15 : Int), (x16 : Bool))))
def vineryref09_Split.f (k : Nat) (a0 : List Int) : Option (List S_api_Raw × Int) := (vineryref01_Open.f a0).bind fun t5 => (vineryref09_Split.l0 k k ([] : List S_api_Raw) t5.B t5.At t5.No).bind fun s10 => match s10 with | .inl r => some r | .inr s10' => some ((s10'.1 : List S_api_Raw), ((0 : Int) : Int))
set_option maxRecDepth 100000 in
theorem vineryref09_Split.walk (w : World) (M : List Nat) (hM : MS M w) (a0 : List Int) (ao1 : Option Addr) (cap1 : Nat) (f1 : RSl (rInt .u8) 5 w M ao1 cap1 a0) (k : Nat) (r : List S_api_Raw × Int) (H : vineryref09_Split.f k a0 = some r) :
    To Tryd.prog 32 [.slice ao1 a0.length cap1] w fun v w' => ∃ (ao60 : Option Addr) (cap60 : Nat), v = .tuple #[.slice ao60 r.1.length cap60, .int .i64 r.2] ∧ (Own rS_api_Raw 61 w' (blkL ao60 ++ (M)) ao60 cap60 r.1) ∧ (∀ x ∈ blkL ao60, w.heap.size ≤ x) ∧ Chg [] w w' ∧ MS (blkL ao60 ++ (M)) w' := by
 unfold vineryref09_Split.f at H
 refine ent Tryd.func32 rfl [(0, .slice ao1 a0.length cap1)] rfl (by rfl) fun a ha => ?_
 have hC : Chg [] w w := Chg.refl _ _
 refine wp_seq_k fun K2 hK2 => ?_
 refine wp_region_lit ?_
 refine seg ha 2 [(0, .slice ao1 a0.length cap1)] (by kernel_rfl) fun a ha => ?_
 refine hK2 _ _ ?_; try clear hK2 K2
 refine wp_seq_k fun K3 hK3 => ?_
 refine wp_region_lit ?_
 refine seg ha 1 [(0, .slice ao1 a0.length cap1), (4, .slice none 0 0)] (by kernel_rfl) fun a ha => ?_
 refine hK3 _ _ ?_; try clear hK3 K3
 refine wp_seq_k fun K4 hK4 => ?_
 refine wp_region_lit ?_
 refine seg ha 1 [(4, .slice none 0 0), (10, .slice ao1 a0.length cap1)] (by kernel_rfl) fun a ha => ?_
 obtain ⟨t5, H5, H⟩ := bind_some H
 refine cl ha (by rfl) (by kernel_rfl) (by rfl) (by rfl) (by rfl) (vineryref01_Open.walk w _ hM a0 ao1 cap1 f1 _ H5) ?_
 rintro _ w5 ⟨g6, ao8, cap8, rfl, f8, hBg6, ne_i7, hc5, hMn⟩ a ha
 have o1 : Ok [] (M) w.heap.size := Ok.nil _ _
 have o2 : Ok ([g6] ++ (M)) (M) w.heap.size := (Ok.app (fun x h => .inr (ne_i7 x h)) (Ok.refl _ _))
 have f1 := f1.chg hc5 o1 o2
 have p_i7_M : ∀ x ∈ [g6], x ∉ M := fun x hx hy => absurd (hM x (hy)) (Nat.not_lt.2 (ne_i7 x hx))
 have e_i7 : ∀ x ∈ [g6], w.heap.size ≤ x := fun x hx => Nat.le_trans hC.size (ne_i7 x hx)
 have hM : MS ([g6] ++ (M)) w5 := (MS.app (fun x h => hMn x (ml h)) (hM.chg hc5))
 have hC := hC.trans hc5 (Ok.nil _ _)
 refine seg ha 1 [(4, .slice none 0 0), (5, .pointer (some ⟨g6, 0, none⟩))] (by kernel_rfl) fun a ha => ?_
 refine hK4 _ _ ?_; try clear hK4 K4
 refine wp_seq_k fun K9 hK9 => ?_
 refine wp_block ?_
 obtain ⟨s10, H10, H⟩ := bind_some H
 have J10 : ∀ s10' (a : Act) (wx10 : World) (ao17 : Option Addr) (cap17 : Nat) (ao18 : Option Addr) (cap18 : Nat), s10 = .inr s10' → Has a Tryd.f32.ntmps [(4, .slice ao17 s10'.1.length cap17)] → (Own rS_api_Raw 61 wx10 (blkL ao17 ++ ([g6] ++ (M))) ao17 cap17 s10'.1) → (RSl (rInt .u8) 5 wx10 (blkL ao17 ++ ([g6] ++ (M))) ao18 cap18 s10'.2.1) → (Box wx10 g6 (cS_vineryref01_Reader (⟨s10'.2.1, s10'.2.2.1, s10'.2.2.2⟩ : S_vineryref01_Reader) ao18 cap18)) → (∀ x ∈ blkL ao17, w.heap.size ≤ x) → (∀ x ∈ blkL ao17, x ∉ [g6]) → (∀ x ∈ blkL ao17, x ∉ M) → (Chg [] w wx10) → (MS (blkL ao17 ++ ([g6] ++ (M))) wx10) → K9 a wx10 := by
  intro s10' a wx10 ao17 cap17 ao18 cap18 hs ha f17 f18 hBg6 e_i17 p_i17_i7 p_i17_M hC hM
  subst hs
  refine hK9 _ _ ?_; try clear hK9 K9
  refine wp_seq_k fun K19 hK19 => ?_
  refine wp_region_lit ?_
  refine seg ha 3 [(2, .slice ao17 s10'.1.length cap17), (3, .int .i64 (0 : Int))] (by kernel_rfl) fun a ha => ?_
  refine hK19 _ _ ?_; try clear hK19 K19
  refine wp_ret ?_
  try simp only [Exit.then, Exit.inBlock]
  have o1 : Ok [] (blkL ao17 ++ ([g6] ++ (M))) wx10.heap.size := Ok.nil _ _
  have o2 : Ok (blkL ao17 ++ (M)) (blkL ao17 ++ ([g6] ++ (M))) wx10.heap.size := (Ok.app (fun _ h => .inl (ml h)) (fun _ h => .inl (mr (mr (h)))))
  have f17 := f17.chg (Chg.refl [] _) o1 o2 (fun _ _ h => nomatch h) (fun _ h => ml h)
  have f18 := f18.chg (Chg.refl [] _) o1 o2
  have hM : MS (blkL ao17 ++ (M)) wx10 := (MS.app (fun x h => hM.chg (Chg.refl [] _) x (ml h)) (fun x h => hM.chg (Chg.refl [] _) x (mr (mr (h)))))
  obtain rfl := Option.some.inj H
  refine rt2 ha rfl rfl rfl ?_
  exact ⟨ao17, cap17, rfl, f17, e_i17, hC, hM⟩
 have Hc10 := H
 have H := H10
 refine wp_loop_ghost (fun kk a w10 => ∃ (x13 : List S_api_Raw) (x14 : List Int) (x15 : Int) (x16 : Bool) (ao11 : Option Addr) (cap11 : Nat) (ao12 : Option Addr) (cap12 : Nat), vineryref09_Split.l0 k kk x13 x14 x15 x16 = some s10 ∧ Has a Tryd.f32.ntmps [(4, .slice ao11 x13.length cap11), (5, .pointer (some ⟨g6, 0, none⟩))] ∧ (Own rS_api_Raw 61 w10 (blkL ao11 ++ ([g6] ++ (M))) ao11 cap11 x13) ∧ (RSl (rInt .u8) 5 w10 (blkL ao11 ++ ([g6] ++ (M))) ao12 cap12 x14) ∧ (Box w10 g6 (cS_vineryref01_Reader (⟨x14, x15, x16⟩ : S_vineryref01_Reader) ao12 cap12)) ∧ (∀ x ∈ blkL ao11, w.heap.size ≤ x) ∧ (∀ x ∈ blkL ao11, x ∉ [g6]) ∧ (∀ x ∈ blkL ao11, x ∉ M) ∧ (Chg [] w w10) ∧ (MS (blkL ao11 ++ ([g6] ++ (M))) w10)) k ?_ ?_
 ·skip
  have o1 : Ok [] ([g6] ++ (M)) w5.heap.size := Ok.nil _ _
  have o2 : Ok (blkL none ++ ([g6] ++ (M))) ([g6] ++ (M)) w5.heap.size := (Ok.app (fun _ h => nomatch h) (Ok.refl _ _))
  have f8 := f8.chg (Chg.refl [] _) o1 o2
  have p_z20_i7 : ∀ x ∈ blkL none, x ∉ ([g6]) := fun x hx hy => absurd (hM x (ml hy)) (Nat.not_lt.2 ((fun _ h => nomatch h) x hx))
  have p_z20_M : ∀ x ∈ blkL none, x ∉ M := fun x hx hy => absurd (hM x (mr (hy))) (Nat.not_lt.2 ((fun _ h => nomatch h) x hx))
  have e_z20 : ∀ x ∈ blkL none, w.heap.size ≤ x := fun x hx => Nat.le_trans hC.size ((fun _ h => nomatch h) x hx)
  have hM : MS (blkL none ++ ([g6] ++ (M))) w5 := (MS.app (fun _ h => nomatch h) (hM.chg (Chg.refl [] _)))
  exact ⟨([] : List S_api_Raw), t5.B, t5.At, t5.No, none, 0, ao8, cap8, H, (ha.sel (by kernel_rfl)), Own.nil, f8, hBg6, e_z20, p_z20_i7, p_z20_M, hC, hM⟩
 ·rintro kk a w10 ⟨x13, x14, x15, x16, ao11, cap11, ao12, cap12, H, ha, f11, f12, hBg6, e_i11, p_i11_i7, p_i11_M, hC, hM⟩
  obtain _ | kk := kk
  ·exact nomatch (show none = some _ from H)
  rw [vineryref09_Split.l0] at H
  refine wp_seq_k fun K21 hK21 => ?_
  refine wp_seq_k fun K22 hK22 => ?_
  refine wp_region_lit ?_
  refine seg ha 1 [(4, .slice ao11 x13.length cap11), (5, .pointer (some ⟨g6, 0, none⟩)), (12, .pointer (some ⟨g6, 0, none⟩))] (by kernel_rfl) fun a ha => ?_
  obtain ⟨t23, H23, H⟩ := bind_some H
  refine cl ha (by rfl) (by kernel_rfl) (by rfl) (by rfl) (by rfl) (vineryref01_Reader_Left.walk w10 _ hM g6 (⟨x14, x15, x16⟩ : S_vineryref01_Reader) ao12 cap12 f12 hBg6 (mr (ml (List.mem_singleton.2 rfl))) _ H23) ?_
  rintro _ w23 ⟨rfl, hc23, hMn⟩ a ha
  have o1 : Ok [] (blkL ao11 ++ ([g6] ++ (M))) w10.heap.size := Ok.nil _ _
  have o2 : Ok (blkL ao11 ++ ([g6] ++ (M))) (blkL ao11 ++ ([g6] ++ (M))) w10.heap.size := (Ok.refl _ _)
  have f11 := f11.chg hc23 o1 o2 (fun _ _ h => nomatch h) (fun _ h => ml h)
  have f12 := f12.chg hc23 o1 o2
  have hBg6 := hBg6.chg hc23 (fun h => nomatch h)
  have hM : MS (blkL ao11 ++ ([g6] ++ (M))) w23 := (hM.chg hc23)
  have hC := hC.trans hc23 (Ok.nil _ _)
  refine seg ha 1 [(4, .slice ao11 x13.length cap11), (5, .pointer (some ⟨g6, 0, none⟩)), (14, .bool (decide (t23 > (0 : Int))))] (by kernel_rfl) fun a ha => ?_
  refine hK22 _ _ ?_; try clear hK22 K22
  refine cnd ha rfl (fun hc24 => ?_) (fun hc24 => ?_)
  ·have H := ite_t hc24 H
   refine wp_skip ?_
   refine hK21 _ _ ?_; try clear hK21 K21
   refine wp_block ?_
   refine wp_seq_k fun K25 hK25 => ?_
   refine wp_seq_k fun K26 hK26 => ?_
   refine wp_region_lit ?_
   refine seg ha 3 [(4, .slice ao11 x13.length cap11), (5, .pointer (some ⟨g6, 0, none⟩)), (17, .bool ((x13.length : Int) == (64 : Int)))] (by kernel_rfl) fun a ha => ?_
   refine hK26 _ _ ?_; try clear hK26 K26
   refine cnd ha rfl (fun hc27 => ?_) (fun hc27 => ?_)
   ·have H := ite_t hc27 H
    refine wp_seq_k fun K28 hK28 => ?_
    refine wp_region_lit ?_
    refine seg ha 2 [(2, .slice none 0 0), (3, .int .i64 (2 : Int))] (by kernel_rfl) fun a ha => ?_
    refine hK28 _ _ ?_; try clear hK28 K28
    refine wp_ret ?_
    try simp only [Exit.then, Exit.inBlock]
    have o1 : Ok [] (blkL ao11 ++ ([g6] ++ (M))) w23.heap.size := Ok.nil _ _
    have o2 : Ok (blkL none ++ (M)) (blkL ao11 ++ ([g6] ++ (M))) w23.heap.size := (Ok.app (fun _ h => nomatch h) (fun _ h => .inl (mr (mr (h)))))
    have f12 := f12.chg (Chg.refl [] _) o1 o2
    have p_z29_M : ∀ x ∈ blkL none, x ∉ M := fun x hx hy => absurd (hM x (mr (mr (hy)))) (Nat.not_lt.2 ((fun _ h => nomatch h) x hx))
    have e_z29 : ∀ x ∈ blkL none, w.heap.size ≤ x := fun x hx => Nat.le_trans hC.size ((fun _ h => nomatch h) x hx)
    have hM : MS (blkL none ++ (M)) w23 := (MS.app (fun _ h => nomatch h) (fun x h => hM.chg (Chg.refl [] _) x (mr (mr (h)))))
    obtain rfl := Option.some.inj H
    have H := (show some _ = some _ from Hc10)
    obtain rfl := Option.some.inj H
    refine rt2 ha rfl rfl rfl ?_
    exact ⟨none, 0, rfl, Own.nil, e_z29, hC, hM⟩
   ·have H := ite_f hc27 H
    refine wp_skip ?_
    refine hK25 _ _ ?_; try clear hK25 K25
    refine wp_seq_k fun K30 hK30 => ?_
    refine wp_region_lit ?_
    refine seg ha 1 [(4, .slice ao11 x13.length cap11), (5, .pointer (some ⟨g6, 0, none⟩)), (18, .pointer (some ⟨g6, 0, none⟩))] (by kernel_rfl) fun a ha => ?_
    obtain ⟨t31, H31, H⟩ := bind_some H
    refine cl ha (by rfl) (by kernel_rfl) (by rfl) (by rfl) (by rfl) (vineryref01_Reader_Num.walk w23 _ hM g6 (⟨x14, x15, x16⟩ : S_vineryref01_Reader) ao12 cap12 f12 hBg6 (mr (ml (List.mem_singleton.2 rfl))) (1 : Int) k _ H31) ?_
    rintro _ w31 ⟨ao32, cap32, rfl, f32, qhBg6, hc31, hMn⟩ a ha
    have o1 : Ok [g6] (blkL ao11 ++ ([g6] ++ (M))) w23.heap.size := (fun _ h => .inl (mr (ml h)))
    have o2 : Ok (blkL ao11 ++ ([g6] ++ (M))) (blkL ao11 ++ ([g6] ++ (M))) w23.heap.size := (Ok.refl _ _)
    have f11 := f11.chg hc31 o1 o2 p_i11_i7 (fun _ h => ml h)
    have f12 := f12.chg hc31 o1 o2
    have hM : MS (blkL ao11 ++ ([g6] ++ (M))) w31 := (hM.chg hc31)
    have hC := hC.trans hc31 (fun x h => .inr (e_i7 x h))
    have hBg6 := qhBg6
    refine seg ha 1 [(4, .slice ao11 x13.length cap11), (5, .pointer (some ⟨g6, 0, none⟩)), (6, .int .i64 t31.1)] (by kernel_rfl) fun a ha => ?_
    refine hK30 _ _ ?_; try clear hK30 K30
    refine wp_seq_k fun K33 hK33 => ?_
    refine wp_region_lit ?_
    refine seg ha 1 [(4, .slice ao11 x13.length cap11), (5, .pointer (some ⟨g6, 0, none⟩)), (6, .int .i64 t31.1), (20, .pointer (some ⟨g6, 0, none⟩))] (by kernel_rfl) fun a ha => ?_
    obtain ⟨t34, H34, H⟩ := bind_some H
    refine cl ha (by rfl) (by kernel_rfl) (by rfl) (by rfl) (by rfl) (vineryref01_Reader_Num.walk w31 _ hM g6 t31.2 ao32 cap32 f32 hBg6 (mr (ml (List.mem_singleton.2 rfl))) (1 : Int) k _ H34) ?_
    rintro _ w34 ⟨ao35, cap35, rfl, f35, qhBg6, hc34, hMn⟩ a ha
    have o1 : Ok [g6] (blkL ao11 ++ ([g6] ++ (M))) w31.heap.size := (fun _ h => .inl (mr (ml h)))
    have o2 : Ok (blkL ao11 ++ ([g6] ++ (M))) (blkL ao11 ++ ([g6] ++ (M))) w31.heap.size := (Ok.refl _ _)
    have f11 := f11.chg hc34 o1 o2 p_i11_i7 (fun _ h => ml h)
    have f32 := f32.chg hc34 o1 o2
    have hM : MS (blkL ao11 ++ ([g6] ++ (M))) w34 := (hM.chg hc34)
    have hC := hC.trans hc34 (fun x h => .inr (e_i7 x h))
    have hBg6 := qhBg6
    refine seg ha 1 [(4, .slice ao11 x13.length cap11), (5, .pointer (some ⟨g6, 0, none⟩)), (6, .int .i64 t31.1), (7, .int .i64 t34.1)] (by kernel_rfl) fun a ha => ?_
    refine hK33 _ _ ?_; try clear hK33 K33
    refine wp_seq_k fun K36 hK36 => ?_
    refine wp_region_lit ?_
    refine seg ha 1 [(4, .slice ao11 x13.length cap11), (5, .pointer (some ⟨g6, 0, none⟩)), (6, .int .i64 t31.1), (7, .int .i64 t34.1), (8, .int .i64 (1 : Int))] (by kernel_rfl) fun a ha => ?_
    refine hK36 _ _ ?_; try clear hK36 K36
    refine wp_seq_k fun K37 hK37 => ?_
    obtain ⟨s38, H38, H⟩ := bind_some H
    have J38 : ∀ (a : Act) (w38 : World), Has a Tryd.f32.ntmps [(4, .slice ao11 x13.length cap11), (5, .pointer (some ⟨g6, 0, none⟩)), (6, .int .i64 t31.1), (7, .int .i64 t34.1), (8, .int .i64 s38)] → (Own rS_api_Raw 61 w38 (blkL ao11 ++ ([g6] ++ (M))) ao11 cap11 x13) → (RSl (rInt .u8) 5 w38 (blkL ao11 ++ ([g6] ++ (M))) ao35 cap35 t34.2.B) → (Box w38 g6 (cS_vineryref01_Reader t34.2 ao35 cap35)) → (Chg [] w w38) → (MS (blkL ao11 ++ ([g6] ++ (M))) w38) → K37 a w38 := by
     intro a w38 ha f11 f35 hBg6 hC hM
     refine hK37 _ _ ?_; try clear hK37 K37
     refine wp_seq_k fun K39 hK39 => ?_
     refine wp_region_lit ?_
     refine seg ha 3 [(4, .slice ao11 x13.length cap11), (5, .pointer (some ⟨g6, 0, none⟩)), (6, .int .i64 t31.1), (7, .int .i64 t34.1), (25, .pointer (some ⟨g6, 0, none⟩)), (26, .pointer (some ⟨g6, 0, none⟩)), (27, .int .i64 s38)] (by kernel_rfl) fun a ha => ?_
     obtain ⟨t40, H40, H⟩ := bind_some H
     refine cl ha (by rfl) (by kernel_rfl) (by rfl) (by rfl) (by rfl) (vineryref01_Reader_Num.walk w38 _ hM g6 t34.2 ao35 cap35 f35 hBg6 (mr (ml (List.mem_singleton.2 rfl))) s38 k _ H40) ?_
     rintro _ w40 ⟨ao41, cap41, rfl, f41, qhBg6, hc40, hMn⟩ a ha
     have o1 : Ok [g6] (blkL ao11 ++ ([g6] ++ (M))) w38.heap.size := (fun _ h => .inl (mr (ml h)))
     have o2 : Ok (blkL ao11 ++ ([g6] ++ (M))) (blkL ao11 ++ ([g6] ++ (M))) w38.heap.size := (Ok.refl _ _)
     have f11 := f11.chg hc40 o1 o2 p_i11_i7 (fun _ h => ml h)
     have f35 := f35.chg hc40 o1 o2
     have hM : MS (blkL ao11 ++ ([g6] ++ (M))) w40 := (hM.chg hc40)
     have hC := hC.trans hc40 (fun x h => .inr (e_i7 x h))
     have hBg6 := qhBg6
     obtain ⟨t42, H42, H⟩ := bind_some H
     refine cl ha (by rfl) (by kernel_rfl) (by rfl) (by rfl) (by rfl) (vineryref01_Reader_Take.walk w40 _ hM g6 t40.2 ao41 cap41 f41 hBg6 (mr (ml (List.mem_singleton.2 rfl))) t40.1 _ H42) ?_
     rintro _ w42 ⟨ao43, cap43, ao44, cap44, rfl, f43, f44, qhBg6, ne_i43, hc42, hMn⟩ a ha
     have o1 : Ok [g6] (blkL ao11 ++ ([g6] ++ (M))) w40.heap.size := (fun _ h => .inl (mr (ml h)))
     have o2 : Ok (blkL ao43 ++ (blkL ao11 ++ ([g6] ++ (M)))) (blkL ao11 ++ ([g6] ++ (M))) w40.heap.size := (Ok.app (fun x h => .inr (ne_i43 x h)) (Ok.refl _ _))
     have f11 := f11.chg hc42 o1 o2 p_i11_i7 (fun _ h => mr (ml h))
     have f41 := f41.chg hc42 o1 o2
     have p_i43_i11 : ∀ x ∈ blkL ao43, x ∉ (blkL ao11) := fun x hx hy => absurd (hM x (ml hy)) (Nat.not_lt.2 (ne_i43 x hx))
     have p_i43_i7 : ∀ x ∈ blkL ao43, x ∉ ([g6]) := fun x hx hy => absurd (hM x (mr (ml hy))) (Nat.not_lt.2 (ne_i43 x hx))
     have p_i43_M : ∀ x ∈ blkL ao43, x ∉ M := fun x hx hy => absurd (hM x (mr (mr (hy)))) (Nat.not_lt.2 (ne_i43 x hx))
     have e_i43 : ∀ x ∈ blkL ao43, w.heap.size ≤ x := fun x hx => Nat.le_trans hC.size (ne_i43 x hx)
     have hM : MS (blkL ao43 ++ (blkL ao11 ++ ([g6] ++ (M)))) w42 := (MS.app (fun x h => hMn x (ml h)) (hM.chg hc42))
     have hC := hC.trans hc42 (fun x h => .inr (e_i7 x h))
     have hBg6 := qhBg6
     refine seg ha 1 [(4, .slice ao11 x13.length cap11), (5, .pointer (some ⟨g6, 0, none⟩)), (6, .int .i64 t31.1), (7, .int .i64 t34.1), (9, .slice ao43 t42.1.length cap43)] (by kernel_rfl) fun a ha => ?_
     refine hK39 _ _ ?_; try clear hK39 K39
     refine wp_seq_k fun K45 hK45 => ?_
     refine wp_seq_k fun K46 hK46 => ?_
     refine wp_region_lit ?_
     refine seg ha 3 [(4, .slice ao11 x13.length cap11), (5, .pointer (some ⟨g6, 0, none⟩)), (6, .int .i64 t31.1), (7, .int .i64 t34.1), (9, .slice ao43 t42.1.length cap43), (32, .pointer (some ⟨g6, 2, none⟩))] (by kernel_rfl) fun a ha => ?_
     refine ld (v := .bool t42.2.No) ha rfl (by kernel_rfl) rfl rfl rfl (hBg6.cell' (o := 2) rfl (by kernel_rfl)) fun a ha => ?_
     refine hK46 _ _ ?_; try clear hK46 K46
     refine cnd ha rfl (fun hc47 => ?_) (fun hc47 => ?_)
     ·have H := ite_t hc47 H
      refine wp_seq_k fun K48 hK48 => ?_
      refine wp_region_lit ?_
      refine seg ha 2 [(2, .slice none 0 0), (3, .int .i64 (3 : Int))] (by kernel_rfl) fun a ha => ?_
      refine hK48 _ _ ?_; try clear hK48 K48
      refine wp_ret ?_
      try simp only [Exit.then, Exit.inBlock]
      have o1 : Ok [] (blkL ao43 ++ (blkL ao11 ++ ([g6] ++ (M)))) w42.heap.size := Ok.nil _ _
      have o2 : Ok (blkL none ++ (M)) (blkL ao43 ++ (blkL ao11 ++ ([g6] ++ (M)))) w42.heap.size := (Ok.app (fun _ h => nomatch h) (fun _ h => .inl (mr (mr (mr (h))))))
      have f44 := f44.chg (Chg.refl [] _) o1 o2
      have p_z49_M : ∀ x ∈ blkL none, x ∉ M := fun x hx hy => absurd (hM x (mr (mr (mr (hy))))) (Nat.not_lt.2 ((fun _ h => nomatch h) x hx))
      have e_z49 : ∀ x ∈ blkL none, w.heap.size ≤ x := fun x hx => Nat.le_trans hC.size ((fun _ h => nomatch h) x hx)
      have hM : MS (blkL none ++ (M)) w42 := (MS.app (fun _ h => nomatch h) (fun x h => hM.chg (Chg.refl [] _) x (mr (mr (mr (h))))))
      obtain rfl := Option.some.inj H
      have H := (show some _ = some _ from Hc10)
      obtain rfl := Option.some.inj H
      refine rt2 ha rfl rfl rfl ?_
      exact ⟨none, 0, rfl, Own.nil, e_z49, hC, hM⟩
     ·have H := ite_f hc47 H
      refine wp_skip ?_
      refine hK45 _ _ ?_; try clear hK45 K45
      refine wp_region_lit ?_
      refine seg ha 5 [(5, .pointer (some ⟨g6, 0, none⟩)), (34, .slice ao11 x13.length cap11), (36, .int .i64 (IntKind.i64.wrap (BitVec.ofInt IntKind.i64.bits t31.1 &&& ~~~ BitVec.ofInt IntKind.i64.bits (16 : Int)).toNat)), (37, .int .i64 t34.1), (38, .slice ao43 t42.1.length cap43)] (by kernel_rfl) fun a ha => ?_
      refine opk (v := .agg (cS_api_Raw (⟨IntKind.i64.wrap (BitVec.ofInt IntKind.i64.bits t31.1 &&& ~~~ BitVec.ofInt IntKind.i64.bits (16 : Int)).toNat, t34.1, t42.1⟩ : S_api_Raw) ao43 cap43).toArray) ha rfl rfl rfl rfl rfl (fun w => by kernel_rfl) fun a ha => ?_
      have fz := f43.toRSl (M' := blkL ao11 ++ ([g6] ++ (M))) (fun _ h => .inl (mr (h))) (fun x hx hm => (List.mem_append.1 hm).elim (fun h => p_i43_i11 x hx h) (fun h => (List.mem_append.1 h).elim (fun h => p_i43_i7 x hx h) (fun h => p_i43_M x hx h)))
      have o1 : Ok [] (blkL ao43 ++ (blkL ao11 ++ ([g6] ++ (M)))) w42.heap.size := Ok.nil _ _
      have o2 : Ok (blkL ao11 ++ ([g6] ++ (M))) (blkL ao43 ++ (blkL ao11 ++ ([g6] ++ (M)))) w42.heap.size := (fun _ h => .inl (mr (h)))
      have f11 := f11.chg (Chg.refl [] _) o1 o2 (fun _ _ h => nomatch h) (fun _ h => ml h)
      have f44 := f44.chg (Chg.refl [] _) o1 o2
      have hM : MS (blkL ao11 ++ ([g6] ++ (M))) w42 := (fun x h => hM.chg (Chg.refl [] _) x (mr (h)))
      have f43 := fz
      refine bslA (vals := ([.agg (cS_api_Raw (⟨IntKind.i64.wrap (BitVec.ofInt IntKind.i64.bits t31.1 &&& ~~~ BitVec.ofInt IntKind.i64.bits (16 : Int)).toNat, t34.1, t42.1⟩ : S_api_Raw) ao43 cap43).toArray] : List Value)) (T := 61) (z := .agg (cS_api_Raw (⟨(0 : Int), (0 : Int), ([] : List Int)⟩ : S_api_Raw) none 0).toArray) ha rfl (by kernel_rfl) rfl (by kernel_rfl) (s := 3) (by kernel_rfl) rfl rfl (fun w => by kernel_rfl) (by kernel_rfl) rfl rfl rfl fun a w50 g51 hN52 ha => ?_
      have hN52 := (show New _ _ _ (.cells (((cS_api_Raw (⟨IntKind.i64.wrap (BitVec.ofInt IntKind.i64.bits t31.1 &&& ~~~ BitVec.ofInt IntKind.i64.bits (16 : Int)).toNat, t34.1, t42.1⟩ : S_api_Raw) ao43 cap43) ++ ([] : List Value))).toArray 61 (0, 0)) from hN52)
      have o1 : Ok [] (blkL ao11 ++ ([g6] ++ (M))) w42.heap.size := Ok.nil _ _
      have o2 : Ok ([g51] ++ (blkL ao11 ++ ([g6] ++ (M)))) (blkL ao11 ++ ([g6] ++ (M))) w42.heap.size := (Ok.app (hN52.ok _) (Ok.refl _ _))
      have f11 := f11.chg hN52.chg o1 o2 (fun _ _ h => nomatch h) (fun _ h => mr (ml h))
      have f43 := f43.chg hN52.chg o1 o2
      have f44 := f44.chg hN52.chg o1 o2
      have hBg6 := hBg6.chg hN52.chg (fun h => nomatch h)
      have p_i53_i11 : ∀ x ∈ [g51], x ∉ (blkL ao11) := fun x hx hy => absurd (hM x (ml hy)) (Nat.not_lt.2 ((hN52.ge1) x hx))
      have p_i53_i7 : ∀ x ∈ [g51], x ∉ ([g6]) := fun x hx hy => absurd (hM x (mr (ml hy))) (Nat.not_lt.2 ((hN52.ge1) x hx))
      have p_i53_M : ∀ x ∈ [g51], x ∉ M := fun x hx hy => absurd (hM x (mr (mr (hy)))) (Nat.not_lt.2 ((hN52.ge1) x hx))
      have e_i53 : ∀ x ∈ [g51], w.heap.size ≤ x := fun x hx => Nat.le_trans hC.size ((hN52.ge1) x hx)
      have hM : MS ([g51] ++ (blkL ao11 ++ ([g6] ++ (M)))) w50 := (MS.app hN52.ms (hM.chg hN52.chg))
      have hC := hC.trans hN52.chg (Ok.nil _ _)
      have f54 : Own rS_api_Raw 61 w50 ([g51] ++ (blkL ao11 ++ ([g6] ++ (M)))) (some ⟨g51, 0, none⟩) 1 ([(⟨IntKind.i64.wrap (BitVec.ofInt IntKind.i64.bits t31.1 &&& ~~~ BitVec.ofInt IntKind.i64.bits (16 : Int)).toNat, t34.1, t42.1⟩ : S_api_Raw)] : List S_api_Raw) := hN52.own ⟨(cS_api_Raw (⟨IntKind.i64.wrap (BitVec.ofInt IntKind.i64.bits t31.1 &&& ~~~ BitVec.ofInt IntKind.i64.bits (16 : Int)).toNat, t34.1, t42.1⟩ : S_api_Raw) ao43 cap43), _, rfl, (rS_api_Raw.mk (⟨IntKind.i64.wrap (BitVec.ofInt IntKind.i64.bits t31.1 &&& ~~~ BitVec.ofInt IntKind.i64.bits (16 : Int)).toNat, t34.1, t42.1⟩ : S_api_Raw) f43), rfl⟩ (Nat.le_of_ble_eq_true rfl)
      obtain ⟨hx55, H⟩ := ite_some H
      refine app (r := rS_api_Raw) (xs := x13) (ys := ([(⟨IntKind.i64.wrap (BitVec.ofInt IntKind.i64.bits t31.1 &&& ~~~ BitVec.ofInt IntKind.i64.bits (16 : Int)).toNat, t34.1, t42.1⟩ : S_api_Raw)] : List S_api_Raw)) ha (ElemT.mk' (bytes := 40) (by kernel_rfl)) rfl rfl rfl rfl rfl f11 f54.src hx55 (by decide) fun a w56 ao57 cap57 hO57 hc57 hk57 hl57 ha => ?_
      have o1 : Ok (blkL ao11) ([g51] ++ (blkL ao11 ++ ([g6] ++ (M)))) w50.heap.size := (fun _ h => .inl (mr (ml h)))
      have o2 : Ok (blkL ao57 ++ ([g51] ++ ([g6] ++ (M)))) ([g51] ++ (blkL ao11 ++ ([g6] ++ (M)))) w50.heap.size := (Ok.app (Ok.to hk57 (fun _ h => mr (ml h))) (Ok.app (fun _ h => .inl (ml h)) (fun _ h => .inl (mr (mr (h))))))
      have f54 := f54.chg hc57 o1 o2 p_i53_i11 (fun _ h => mr (ml h))
      have f44 := f44.chg hc57 o1 o2
      have hBg6 := hBg6.chg hc57 ((fun x (hx : x ∈ [g6]) (hy : x ∈ blkL ao11) => p_i11_i7 x hy hx) g6 (by simp))
      have p_i57_i53 : ∀ x ∈ blkL ao57, x ∉ ([g51]) := fun x hx hy => (hk57 x hx).elim (fun h => (fun x hx hy => p_i53_i11 x hy hx) x h hy) (fun h => absurd (hM x (ml hy)) (Nat.not_lt.2 h))
      have p_i57_i7 : ∀ x ∈ blkL ao57, x ∉ ([g6]) := fun x hx hy => (hk57 x hx).elim (fun h => p_i11_i7 x h hy) (fun h => absurd (hM x (mr (mr (ml hy)))) (Nat.not_lt.2 h))
      have p_i57_M : ∀ x ∈ blkL ao57, x ∉ M := fun x hx hy => (hk57 x hx).elim (fun h => p_i11_M x h hy) (fun h => absurd (hM x (mr (mr (mr (hy))))) (Nat.not_lt.2 h))
      have e_i57 : ∀ x ∈ blkL ao57, w.heap.size ≤ x := fun x hx => (hk57 x hx).elim (e_i11 x) (Nat.le_trans hC.size)
      have hM : MS (blkL ao57 ++ ([g51] ++ ([g6] ++ (M)))) w56 := (MS.app hl57 (MS.app (fun x h => hM.chg hc57 x (ml h)) (fun x h => hM.chg hc57 x (mr (mr (h))))))
      have hC := hC.trans hc57 (fun x h => .inr (e_i11 x h))
      have f57 := hO57.chg (M' := blkL ao57 ++ ([g51] ++ ([g6] ++ (M)))) (Chg.refl [] _) (Ok.nil _ _) (Ok.app (fun _ h => .inl (ml h)) (Ok.to (Ok.app (fun _ h => .inl (ml h)) (fun _ h => .inl (mr (mr (h))))) (fun _ h => mr h))) (fun _ _ h => nomatch h) (fun _ h => ml h)
      refine seg ha 1 [(4, .slice ao57 (x13 ++ ([(⟨IntKind.i64.wrap (BitVec.ofInt IntKind.i64.bits t31.1 &&& ~~~ BitVec.ofInt IntKind.i64.bits (16 : Int)).toNat, t34.1, t42.1⟩ : S_api_Raw)] : List S_api_Raw)).length cap57), (5, .pointer (some ⟨g6, 0, none⟩))] (by kernel_rfl) fun a ha => ?_
      have o1 : Ok [] (blkL ao57 ++ ([g51] ++ ([g6] ++ (M)))) w56.heap.size := Ok.nil _ _
      have o2 : Ok (blkL ao57 ++ ([g6] ++ (M))) (blkL ao57 ++ ([g51] ++ ([g6] ++ (M)))) w56.heap.size := (Ok.app (fun _ h => .inl (ml h)) (fun _ h => .inl (mr (mr (h)))))
      have f57 := f57.chg (Chg.refl [] _) o1 o2 (fun _ _ h => nomatch h) (fun _ h => ml h)
      have f44 := f44.chg (Chg.refl [] _) o1 o2
      have hM : MS (blkL ao57 ++ ([g6] ++ (M))) w56 := (MS.app (fun x h => hM.chg (Chg.refl [] _) x (ml h)) (fun x h => hM.chg (Chg.refl [] _) x (mr (mr (h)))))
      exact ⟨kk, Nat.lt_succ_self _, ⟨(x13 ++ ([(⟨IntKind.i64.wrap (BitVec.ofInt IntKind.i64.bits t31.1 &&& ~~~ BitVec.ofInt IntKind.i64.bits (16 : Int)).toNat, t34.1, t42.1⟩ : S_api_Raw)] : List S_api_Raw)), t42.2.B, t42.2.At, t42.2.No, ao57, cap57, ao44, cap44, H, (ha.sel (by kernel_rfl)), f57, f44, hBg6, e_i57, p_i57_i7, p_i57_M, hC, hM⟩⟩
    have H := H38
    refine wp_seq_k fun K58 hK58 => ?_
    refine wp_region_lit ?_
    refine seg ha 3 [(4, .slice ao11 x13.length cap11), (5, .pointer (some ⟨g6, 0, none⟩)), (6, .int .i64 t31.1), (7, .int .i64 t34.1), (8, .int .i64 (1 : Int)), (24, .bool ((IntKind.i64.wrap (BitVec.ofInt IntKind.i64.bits t31.1 &&& BitVec.ofInt IntKind.i64.bits (16 : Int)).toNat) != (0 : Int)))] (by kernel_rfl) fun a ha => ?_
    refine hK58 _ _ ?_; try clear hK58 K58
    refine cnd ha rfl (fun hc59 => ?_) (fun hc59 => ?_)
    ·have H := ite_t hc59 H
     refine wp_region_lit ?_
     refine seg ha 1 [(4, .slice ao11 x13.length cap11), (5, .pointer (some ⟨g6, 0, none⟩)), (6, .int .i64 t31.1), (7, .int .i64 t34.1), (8, .int .i64 (2 : Int))] (by kernel_rfl) fun a ha => ?_
     obtain rfl := Option.some.inj H
     exact J38 _ _ (ha.sel (by kernel_rfl)) f11 f35 hBg6 hC hM
    ·have H := ite_f hc59 H
     refine wp_skip ?_
     obtain rfl := Option.some.inj H
     exact J38 _ _ (ha.sel (by kernel_rfl)) f11 f35 hBg6 hC hM
  ·have H := ite_f hc24 H
   refine wp_exit ?_
   simp only [Exit.then, Exit.inBlock, ↓reduceIte, Nat.reduceEqDiff]
   obtain rfl := Option.some.inj H
   exact J10 _ _ _ ao11 cap11 ao12 cap12 rfl (ha.sel (by kernel_rfl)) f11 f12 hBg6 e_i11 p_i11_i7 p_i11_M hC hM
def vineryref09_Join.l0 (a0 : List S_api_Raw) : Nat → (List Int) → Int → Option ((List Int × Int) ⊕ (List Int))
  | 0, _, _ => none
  | kk + 1, x13, x14 => (if (decide (x14 < (a0.length : Int))) = true then (if 0 ≤ x14 ∧ x14 < (a0.length : Int) then ((if (decide (((rd a0 x14).Flags) < (0 : Int))) = true then some (true : Bool) else (if (decide (((rd a0 x14).Flags) > (255 : Int))) = true then some (true : Bool) else (if ((IntKind.i64.wrap (BitVec.ofInt IntKind.i64.bits ((rd a0 x14).Flags) &&& BitVec.ofInt IntKind.i64.bits (16 : Int)).toNat) != (0 : Int)) = true then some (true : Bool) else (if (decide (((rd a0 x14).Kind) < (0 : Int))) = true then some (true : Bool) else some (decide (((rd a0 x14).Kind) > (255 : Int)) : Bool)))))).bind fun s39 => (if s39 = true then some (.inl ((([] : List Int) : List Int), ((1 : Int) : Int))) else (if (decide ((((rd a0 x14).Value).length : Int) > (4096 : Int))) = true then some (.inl ((([] : List Int) : List Int), ((2 : Int) : Int))) else ((if (decide ((((rd a0 x14).Value).length : Int) > (255 : Int))) = true then (if (x13.length + ([IntKind.u8.wrap (IntKind.i64.wrap (((rd a0 x14).Flags) + (16 : Int))), IntKind.u8.wrap ((rd a0 x14).Kind), IntKind.u8.wrap (IntKind.i64.wrap (Int.tdiv (((rd a0 x14).Value).length : Int) (256 : Int))), IntKind.u8.wrap (((rd a0 x14).Value).length : Int)] : List Int).length) * 1 ≤ 140737488355328 then some ((x13 ++ ([IntKind.u8.wrap (IntKind.i64.wrap (((rd a0 x14).Flags) + (16 : Int))), IntKind.u8.wrap ((rd a0 x14).Kind), IntKind.u8.wrap (IntKind.i64.wrap (Int.tdiv (((rd a0 x14).Value).length : Int) (256 : Int))), IntKind.u8.wrap (((rd a0 x14).Value).length : Int)] : List Int)) : List Int) else none) else (if (x13.length + ([IntKind.u8.wrap ((rd a0 x14).Flags), IntKind.u8.wrap ((rd a0 x14).Kind), IntKind.u8.wrap (((rd a0 x14).Value).length : Int)] : List Int).length) * 1 ≤ 140737488355328 then some ((x13 ++ ([IntKind.u8.wrap ((rd a0 x14).Flags), IntKind.u8.wrap ((rd a0 x14).Kind), IntKind.u8.wrap (((rd a0 x14).Value).length : Int)] : List Int)) : List Int) else none))).bind fun s50 => (if (s50.length + ((rd a0 x14).Value).length) * 1 ≤ 140737488355328 then vineryref09_Join.l0 a0 kk (s50 ++ ((rd a0 x14).Value)) (IntKind.i64.wrap (x14 + (1 : Int))) else none))) else none) else some (.inr (x13 : List Int)))
def vineryref09_Join.f (k : Nat) (a0 : List S_api_Raw) : Option (List Int × Int) := (if (decide ((a0.length : Int) > (64 : Int))) = true then some ((([] : List Int) : List Int), ((2 : Int) : Int)) else (vineryref09_Join.l0 a0 k ([] : List Int) (0 : Int)).bind fun s11 => match s11 with | .inl r => some r | .inr s11' => some ((s11' : List Int), ((0 : Int) : Int)))
set_option maxRecDepth 100000 in
theorem vineryref09_Join.walk (w : World) (M : List Nat) (hM : MS M w) (a0 : List S_api_Raw) (ao1 : Option Addr) (cap1 : Nat) (f1 : RSl rS_api_Raw 61 w M ao1 cap1 a0) (k : Nat) (r : List Int × Int) (H : vineryref09_Join.f k a0 = some r) :
    To Tryd.prog 33 [.slice ao1 a0.length cap1] w fun v w' => ∃ (ao77 : Option Addr) (cap77 : Nat), v = .tuple #[.slice ao77 r.1.length cap77, .int .i64 r.2] ∧ (Own (rInt .u8) 5 w' (blkL ao77 ++ (M)) ao77 cap77 r.1) ∧ (∀ x ∈ blkL ao77, w.heap.size ≤ x) ∧ Chg [] w w' ∧ MS (blkL ao77 ++ (M)) w' := by
 unfold vineryref09_Join.f at H
 refine ent Tryd.func33 rfl [(0, .slice ao1 a0.length cap1)] rfl (by rfl) fun a ha => ?_
 have hC : Chg [] w w := Chg.refl _ _
 refine wp_seq_k fun K2 hK2 => ?_
 refine wp_region_lit ?_
 refine seg ha 2 [(0, .slice ao1 a0.length cap1)] (by kernel_rfl) fun a ha => ?_
 refine hK2 _ _ ?_; try clear hK2 K2
 refine wp_seq_k fun K3 hK3 => ?_
 refine wp_seq_k fun K4 hK4 => ?_
 refine wp_region_lit ?_
 refine seg ha 3 [(0, .slice ao1 a0.length cap1), (10, .bool (decide ((a0.length : Int) > (64 : Int))))] (by kernel_rfl) fun a ha => ?_
 refine hK4 _ _ ?_; try clear hK4 K4
 refine cnd ha rfl (fun hc5 => ?_) (fun hc5 => ?_)
 ·have H := ite_t hc5 H
  refine wp_seq_k fun K6 hK6 => ?_
  refine wp_region_lit ?_
  refine seg ha 2 [(2, .slice none 0 0), (3, .int .i64 (2 : Int))] (by kernel_rfl) fun a ha => ?_
  refine hK6 _ _ ?_; try clear hK6 K6
  refine wp_ret ?_
  try simp only [Exit.then, Exit.inBlock]
  have p_z7_M : ∀ x ∈ blkL none, x ∉ M := fun x hx hy => absurd (hM x (hy)) (Nat.not_lt.2 ((fun _ h => nomatch h) x hx))
  have e_z7 : ∀ x ∈ blkL none, w.heap.size ≤ x := fun x hx => Nat.le_trans hC.size ((fun _ h => nomatch h) x hx)
  have hM : MS (blkL none ++ (M)) w := (MS.app (fun _ h => nomatch h) (hM.chg (Chg.refl [] _)))
  obtain rfl := Option.some.inj H
  refine rt2 ha rfl rfl rfl ?_
  exact ⟨none, 0, rfl, Own.nil, e_z7, hC, hM⟩
 ·have H := ite_f hc5 H
  refine wp_skip ?_
  refine hK3 _ _ ?_; try clear hK3 K3
  refine wp_seq_k fun K8 hK8 => ?_
  refine wp_region_lit ?_
  refine seg ha 1 [(0, .slice ao1 a0.length cap1), (4, .slice none 0 0)] (by kernel_rfl) fun a ha => ?_
  refine hK8 _ _ ?_; try clear hK8 K8
  refine wp_seq_k fun K9 hK9 => ?_
  refine wp_seq_k fun K10 hK10 => ?_
  refine wp_region_lit ?_
  refine seg ha 1 [(0, .slice ao1 a0.length cap1), (4, .slice none 0 0), (5, .int .i64 (0 : Int))] (by kernel_rfl) fun a ha => ?_
  refine hK10 _ _ ?_; try clear hK10 K10
  refine wp_block ?_
  obtain ⟨s11, H11, H⟩ := bind_some H
  have J11 : ∀ s11' (a : Act) (wx11 : World) (ao15 : Option Addr) (cap15 : Nat), s11 = .inr s11' → Has a Tryd.f33.ntmps [(4, .slice ao15 s11'.length cap15)] → (Own (rInt .u8) 5 wx11 (blkL ao15 ++ (M)) ao15 cap15 s11') → (∀ x ∈ blkL ao15, w.heap.size ≤ x) → (∀ x ∈ blkL ao15, x ∉ M) → (Chg [] w wx11) → (MS (blkL ao15 ++ (M)) wx11) → K9 a wx11 := by
   intro s11' a wx11 ao15 cap15 hs ha f15 e_i15 p_i15_M hC hM
   subst hs
   refine hK9 _ _ ?_; try clear hK9 K9
   refine wp_seq_k fun K16 hK16 => ?_
   refine wp_region_lit ?_
   refine seg ha 3 [(2, .slice ao15 s11'.length cap15), (3, .int .i64 (0 : Int))] (by kernel_rfl) fun a ha => ?_
   refine hK16 _ _ ?_; try clear hK16 K16
   refine wp_ret ?_
   try simp only [Exit.then, Exit.inBlock]
   obtain rfl := Option.some.inj H
   refine rt2 ha rfl rfl rfl ?_
   exact ⟨ao15, cap15, rfl, f15, e_i15, hC, hM⟩
  have Hc11 := H
  have H := H11
  refine wp_loop_ghost (fun kk a w11 => ∃ (x13 : List Int) (x14 : Int) (ao12 : Option Addr) (cap12 : Nat), vineryref09_Join.l0 a0 kk x13 x14 = some s11 ∧ Has a Tryd.f33.ntmps [(0, .slice ao1 a0.length cap1), (4, .slice ao12 x13.length cap12), (5, .int .i64 x14)] ∧ (RSl rS_api_Raw 61 w11 (blkL ao12 ++ (M)) ao1 cap1 a0) ∧ (Own (rInt .u8) 5 w11 (blkL ao12 ++ (M)) ao12 cap12 x13) ∧ (∀ x ∈ blkL ao12, w.heap.size ≤ x) ∧ (∀ x ∈ blkL ao12, x ∉ M) ∧ (Chg [] w w11) ∧ (MS (blkL ao12 ++ (M)) w11)) k ?_ ?_
  ·skip
   have o1 : Ok [] (M) w.heap.size := Ok.nil _ _
   have o2 : Ok (blkL none ++ (M)) (M) w.heap.size := (Ok.app (fun _ h => nomatch h) (Ok.refl _ _))
   have f1 := f1.chg (Chg.refl [] _) o1 o2
   have p_z17_M : ∀ x ∈ blkL none, x ∉ M := fun x hx hy => absurd (hM x (hy)) (Nat.not_lt.2 ((fun _ h => nomatch h) x hx))
   have e_z17 : ∀ x ∈ blkL none, w.heap.size ≤ x := fun x hx => Nat.le_trans hC.size ((fun _ h => nomatch h) x hx)
   have hM : MS (blkL none ++ (M)) w := (MS.app (fun _ h => nomatch h) (hM.chg (Chg.refl [] _)))
   exact ⟨([] : List Int), (0 : Int), none, 0, H, (ha.sel (by kernel_rfl)), f1, Own.nil, e_z17, p_z17_M, hC, hM⟩
  ·rintro kk a w11 ⟨x13, x14, ao12, cap12, H, ha, f1, f12, e_i12, p_i12_M, hC, hM⟩
   obtain _ | kk := kk
   ·exact nomatch (show none = some _ from H)
   rw [vineryref09_Join.l0] at H
   refine wp_seq_k fun K18 hK18 => ?_
   refine wp_seq_k fun K19 hK19 => ?_
   refine wp_region_lit ?_
   refine seg ha 4 [(0, .slice ao1 a0.length cap1), (4, .slice ao12 x13.length cap12), (5, .int .i64 x14), (14, .bool (decide (x14 < (a0.length : Int))))] (by kernel_rfl) fun a ha => ?_
   refine hK19 _ _ ?_; try clear hK19 K19
   refine cnd ha rfl (fun hc20 => ?_) (fun hc20 => ?_)
   ·have H := ite_t hc20 H
    refine wp_skip ?_
    refine hK18 _ _ ?_; try clear hK18 K18
    refine wp_seq_k fun K21 hK21 => ?_
    refine wp_block ?_
    refine wp_seq_k fun K22 hK22 => ?_
    refine wp_region_lit ?_
    refine seg ha 2 [(0, .slice ao1 a0.length cap1), (4, .slice ao12 x13.length cap12), (5, .int .i64 x14), (17, .slice ao1 a0.length cap1), (18, .int .i64 x14)] (by kernel_rfl) fun a ha => ?_
    obtain ⟨⟨hx23, hx23'⟩, H⟩ := ite_some H
    refine ix (r := rS_api_Raw) ha (by kernel_rfl) (by kernel_rfl) rfl rfl rfl rfl rfl f1 hx23 hx23' fun a ge24 oe25 cs26 hn29 hR27 hE28 ha => ?_
    rw [rd_get] at hR27
    obtain ⟨ao30, cap30, rfl, f30⟩ := rS_api_Raw.open hR27
    refine ldA (cs := (cS_api_Raw (rd a0 x14) ao30 cap30)) ha rfl (by kernel_rfl) rfl rfl rfl (cells_sub hE28 (all := (cS_api_Raw (rd a0 x14) ao30 cap30)) [] [] (by kernel_rfl)) fun a ha => ?_
    refine al (cs := (cS_api_Raw (⟨(0 : Int), (0 : Int), ([] : List Int)⟩ : S_api_Raw) none 0)) (z := .agg (cS_api_Raw (⟨(0 : Int), (0 : Int), ([] : List Int)⟩ : S_api_Raw) none 0).toArray) ha (fun w => by kernel_rfl) rfl rfl rfl rfl fun a w31 g32 hN33 ha => ?_
    have o1 : Ok [] (blkL ao12 ++ (M)) w11.heap.size := Ok.nil _ _
    have o2 : Ok ([g32] ++ (blkL ao12 ++ (M))) (blkL ao12 ++ (M)) w11.heap.size := (Ok.app (hN33.ok _) (Ok.refl _ _))
    have f1 := f1.chg hN33.chg o1 o2
    have f12 := f12.chg hN33.chg o1 o2 (fun _ _ h => nomatch h) (fun _ h => mr (ml h))
    have f30 := f30.chg hN33.chg o1 o2
    have p_i34_i12 : ∀ x ∈ [g32], x ∉ (blkL ao12) := fun x hx hy => absurd (hM x (ml hy)) (Nat.not_lt.2 ((hN33.ge1) x hx))
    have p_i34_M : ∀ x ∈ [g32], x ∉ M := fun x hx hy => absurd (hM x (mr (hy))) (Nat.not_lt.2 ((hN33.ge1) x hx))
    have e_i34 : ∀ x ∈ [g32], w.heap.size ≤ x := fun x hx => Nat.le_trans hC.size ((hN33.ge1) x hx)
    have hM : MS ([g32] ++ (blkL ao12 ++ (M))) w31 := (MS.app hN33.ms (hM.chg hN33.chg))
    have hC := hC.trans hN33.chg (Ok.nil _ _)
    have hBg32 : Box w31 g32 (cS_api_Raw (⟨(0 : Int), (0 : Int), ([] : List Int)⟩ : S_api_Raw) none 0) := hN33.box
    refine stA (l := (cS_api_Raw (rd a0 x14) ao30 cap30)) ha rfl rfl rfl (by kernel_rfl) rfl rfl hBg32 rfl fun a w35 ha hb2 hc36 _ => ?_
    have o1 : Ok [g32] ([g32] ++ (blkL ao12 ++ (M))) w31.heap.size := (fun _ h => .inl (ml h))
    have o2 : Ok ([g32] ++ (blkL ao12 ++ (M))) ([g32] ++ (blkL ao12 ++ (M))) w31.heap.size := (Ok.refl _ _)
    have f1 := f1.chg hc36 o1 o2
    have f12 := f12.chg hc36 o1 o2 (fun x (hx : x ∈ blkL ao12) (hy : x ∈ [g32]) => p_i34_i12 x hy hx) (fun _ h => mr (ml h))
    have f30 := f30.chg hc36 o1 o2
    have hM : MS ([g32] ++ (blkL ao12 ++ (M))) w35 := (hM.chg hc36)
    have hC := hC.trans hc36 (fun x h => .inr (e_i34 x h))
    have hBg32 : Box w35 g32 (cS_api_Raw (rd a0 x14) ao30 cap30) := hb2
    refine hK22 _ _ ?_; try clear hK22 K22
    refine wp_seq_k fun K37 hK37 => ?_
    refine wp_seq_k fun K38 hK38 => ?_
    refine wp_region_lit ?_
    obtain ⟨s39, H39, H⟩ := bind_some H
    have J39 : ∀ (a : Act) (w39 : World), Has a Tryd.f33.ntmps [(0, .slice ao1 a0.length cap1), (4, .slice ao12 x13.length cap12), (5, .int .i64 x14), (6, .pointer (some ⟨g32, 0, none⟩)), (44, .bool s39)] → (RSl rS_api_Raw 61 w39 ([g32] ++ (blkL ao12 ++ (M))) ao1 cap1 a0) → (Own (rInt .u8) 5 w39 ([g32] ++ (blkL ao12 ++ (M))) ao12 cap12 x13) → (RSl (rInt .u8) 5 w39 ([g32] ++ (blkL ao12 ++ (M))) ao30 cap30 ((rd a0 x14).Value)) → (Box w39 g32 (cS_api_Raw (rd a0 x14) ao30 cap30)) → (Chg [] w w39) → (MS ([g32] ++ (blkL ao12 ++ (M))) w39) → K38 a w39 := by
     intro a w39 ha f1 f12 f30 hBg32 hC hM
     refine hK38 _ _ ?_; try clear hK38 K38
     refine cnd ha rfl (fun hc40 => ?_) (fun hc40 => ?_)
     ·have H := ite_t hc40 H
      refine wp_seq_k fun K41 hK41 => ?_
      refine wp_region_lit ?_
      refine seg ha 2 [(2, .slice none 0 0), (3, .int .i64 (1 : Int))] (by kernel_rfl) fun a ha => ?_
      refine hK41 _ _ ?_; try clear hK41 K41
      refine wp_ret ?_
      try simp only [Exit.then, Exit.inBlock]
      have o1 : Ok [] ([g32] ++ (blkL ao12 ++ (M))) w39.heap.size := Ok.nil _ _
      have o2 : Ok (blkL none ++ (M)) ([g32] ++ (blkL ao12 ++ (M))) w39.heap.size := (Ok.app (fun _ h => nomatch h) (fun _ h => .inl (mr (mr (h)))))
      have f30 := f30.chg (Chg.refl [] _) o1 o2
      have p_z42_M : ∀ x ∈ blkL none, x ∉ M := fun x hx hy => absurd (hM x (mr (mr (hy)))) (Nat.not_lt.2 ((fun _ h => nomatch h) x hx))
      have e_z42 : ∀ x ∈ blkL none, w.heap.size ≤ x := fun x hx => Nat.le_trans hC.size ((fun _ h => nomatch h) x hx)
      have hM : MS (blkL none ++ (M)) w39 := (MS.app (fun _ h => nomatch h) (fun x h => hM.chg (Chg.refl [] _) x (mr (mr (h)))))
      obtain rfl := Option.some.inj H
      have H := (show some _ = some _ from Hc11)
      obtain rfl := Option.some.inj H
      refine rt2 ha rfl rfl rfl ?_
      exact ⟨none, 0, rfl, Own.nil, e_z42, hC, hM⟩
     ·have H := ite_f hc40 H
      refine wp_skip ?_
      refine hK37 _ _ ?_; try clear hK37 K37
      refine wp_seq_k fun K43 hK43 => ?_
      refine wp_region_lit ?_
      refine seg ha 1 [(0, .slice ao1 a0.length cap1), (4, .slice ao12 x13.length cap12), (5, .int .i64 x14), (6, .pointer (some ⟨g32, 0, none⟩)), (45, .pointer (some ⟨g32, 2, none⟩))] (by kernel_rfl) fun a ha => ?_
      refine ld (v := .slice ao30 ((rd a0 x14).Value).length cap30) ha rfl (by kernel_rfl) rfl rfl rfl (hBg32.cell' (o := 2) rfl (by kernel_rfl)) fun a ha => ?_
      refine seg ha 2 [(0, .slice ao1 a0.length cap1), (4, .slice ao12 x13.length cap12), (5, .int .i64 x14), (6, .pointer (some ⟨g32, 0, none⟩)), (7, .int .i64 (((rd a0 x14).Value).length : Int))] (by kernel_rfl) fun a ha => ?_
      refine hK43 _ _ ?_; try clear hK43 K43
      refine wp_seq_k fun K44 hK44 => ?_
      refine wp_seq_k fun K45 hK45 => ?_
      refine wp_region_lit ?_
      refine seg ha 2 [(0, .slice ao1 a0.length cap1), (4, .slice ao12 x13.length cap12), (5, .int .i64 x14), (6, .pointer (some ⟨g32, 0, none⟩)), (7, .int .i64 (((rd a0 x14).Value).length : Int)), (49, .bool (decide ((((rd a0 x14).Value).length : Int) > (4096 : Int))))] (by kernel_rfl) fun a ha => ?_
      refine hK45 _ _ ?_; try clear hK45 K45
      refine cnd ha rfl (fun hc46 => ?_) (fun hc46 => ?_)
      ·have H := ite_t hc46 H
       refine wp_seq_k fun K47 hK47 => ?_
       refine wp_region_lit ?_
       refine seg ha 2 [(2, .slice none 0 0), (3, .int .i64 (2 : Int))] (by kernel_rfl) fun a ha => ?_
       refine hK47 _ _ ?_; try clear hK47 K47
       refine wp_ret ?_
       try simp only [Exit.then, Exit.inBlock]
       have o1 : Ok [] ([g32] ++ (blkL ao12 ++ (M))) w39.heap.size := Ok.nil _ _
       have o2 : Ok (blkL none ++ (M)) ([g32] ++ (blkL ao12 ++ (M))) w39.heap.size := (Ok.app (fun _ h => nomatch h) (fun _ h => .inl (mr (mr (h)))))
       have f30 := f30.chg (Chg.refl [] _) o1 o2
       have p_z48_M : ∀ x ∈ blkL none, x ∉ M := fun x hx hy => absurd (hM x (mr (mr (hy)))) (Nat.not_lt.2 ((fun _ h => nomatch h) x hx))
       have e_z48 : ∀ x ∈ blkL none, w.heap.size ≤ x := fun x hx => Nat.le_trans hC.size ((fun _ h => nomatch h) x hx)
       have hM : MS (blkL none ++ (M)) w39 := (MS.app (fun _ h => nomatch h) (fun x h => hM.chg (Chg.refl [] _) x (mr (mr (h)))))
       obtain rfl := Option.some.inj H
       have H := (show some _ = some _ from Hc11)
       obtain rfl := Option.some.inj H
       refine rt2 ha rfl rfl rfl ?_
       exact ⟨none, 0, rfl, Own.nil, e_z48, hC, hM⟩
      ·have H := ite_f hc46 H
       refine wp_skip ?_
       refine hK44 _ _ ?_; try clear hK44 K44
       refine wp_seq_k fun K49 hK49 => ?_
       obtain ⟨s50, H50, H⟩ := bind_some H
       have J50 : ∀ (a : Act) (w50 : World) (ao51 : Option Addr) (cap51 : Nat), Has a Tryd.f33.ntmps [(0, .slice ao1 a0.length cap1), (4, .slice ao51 s50.length cap51), (5, .int .i64 x14), (6, .pointer (some ⟨g32, 0, none⟩))] → (RSl rS_api_Raw 61 w50 (blkL ao51 ++ ([g32] ++ (M))) ao1 cap1 a0) → (Own (rInt .u8) 5 w50 (blkL ao51 ++ ([g32] ++ (M))) ao51 cap51 s50) → (RSl (rInt .u8) 5 w50 (blkL ao51 ++ ([g32] ++ (M))) ao30 cap30 ((rd a0 x14).Value)) → (Box w50 g32 (cS_api_Raw (rd a0 x14) ao30 cap30)) → (∀ x ∈ blkL ao51, w.heap.size ≤ x) → (∀ x ∈ blkL ao51, x ∉ [g32]) → (∀ x ∈ blkL ao51, x ∉ M) → (Chg [] w w50) → (MS (blkL ao51 ++ ([g32] ++ (M))) w50) → K49 a w50 := by
        intro a w50 ao51 cap51 ha f1 f51 f30 hBg32 e_i51 p_i51_i34 p_i51_M hC hM
        refine hK49 _ _ ?_; try clear hK49 K49
        refine wp_region_lit ?_
        refine seg ha 2 [(0, .slice ao1 a0.length cap1), (5, .int .i64 x14), (78, .slice ao51 s50.length cap51), (79, .pointer (some ⟨g32, 2, none⟩))] (by kernel_rfl) fun a ha => ?_
        refine ld (v := .slice ao30 ((rd a0 x14).Value).length cap30) ha rfl (by kernel_rfl) rfl rfl rfl (hBg32.cell' (o := 2) rfl (by kernel_rfl)) fun a ha => ?_
        obtain ⟨hx52, H⟩ := ite_some H
        refine app (r := (rInt .u8)) (xs := s50) (ys := (rd a0 x14).Value) ha (ElemT.mk' (bytes := 1) (by kernel_rfl)) rfl rfl rfl rfl rfl f51 f30.src hx52 (by decide) fun a w53 ao54 cap54 hO54 hc54 hk54 hl54 ha => ?_
        have o1 : Ok (blkL ao51) (blkL ao51 ++ ([g32] ++ (M))) w50.heap.size := (fun _ h => .inl (ml h))
        have o2 : Ok (blkL ao54 ++ ([g32] ++ (M))) (blkL ao51 ++ ([g32] ++ (M))) w50.heap.size := (Ok.app (Ok.to hk54 (fun _ h => ml h)) (fun _ h => .inl (mr (h))))
        have f1 := f1.chg hc54 o1 o2
        have f30 := f30.chg hc54 o1 o2
        have hBg32 := hBg32.chg hc54 ((fun x (hx : x ∈ [g32]) (hy : x ∈ blkL ao51) => p_i51_i34 x hy hx) g32 (by simp))
        have p_i54_i34 : ∀ x ∈ blkL ao54, x ∉ ([g32]) := fun x hx hy => (hk54 x hx).elim (fun h => p_i51_i34 x h hy) (fun h => absurd (hM x (mr (ml hy))) (Nat.not_lt.2 h))
        have p_i54_M : ∀ x ∈ blkL ao54, x ∉ M := fun x hx hy => (hk54 x hx).elim (fun h => p_i51_M x h hy) (fun h => absurd (hM x (mr (mr (hy)))) (Nat.not_lt.2 h))
        have e_i54 : ∀ x ∈ blkL ao54, w.heap.size ≤ x := fun x hx => (hk54 x hx).elim (e_i51 x) (Nat.le_trans hC.size)
        have hM : MS (blkL ao54 ++ ([g32] ++ (M))) w53 := (MS.app hl54 (fun x h => hM.chg hc54 x (mr (h))))
        have hC := hC.trans hc54 (fun x h => .inr (e_i51 x h))
        have f54 := hO54.chg (M' := blkL ao54 ++ ([g32] ++ (M))) (Chg.refl [] _) (Ok.nil _ _) (Ok.app (fun _ h => .inl (ml h)) (Ok.to (fun _ h => .inl (mr (h))) (fun _ h => mr h))) (fun _ _ h => nomatch h) (fun _ h => ml h)
        refine seg ha 1 [(0, .slice ao1 a0.length cap1), (4, .slice ao54 (s50 ++ ((rd a0 x14).Value)).length cap54), (5, .int .i64 x14)] (by kernel_rfl) fun a ha => ?_
        refine hK21 _ _ ?_; try clear hK21 K21
        refine wp_region_lit ?_
        refine seg ha 3 [(0, .slice ao1 a0.length cap1), (4, .slice ao54 (s50 ++ ((rd a0 x14).Value)).length cap54), (5, .int .i64 (IntKind.i64.wrap (x14 + (1 : Int))))] (by kernel_rfl) fun a ha => ?_
        have o1 : Ok [] (blkL ao54 ++ ([g32] ++ (M))) w53.heap.size := Ok.nil _ _
        have o2 : Ok (blkL ao54 ++ (M)) (blkL ao54 ++ ([g32] ++ (M))) w53.heap.size := (Ok.app (fun _ h => .inl (ml h)) (fun _ h => .inl (mr (mr (h)))))
        have f1 := f1.chg (Chg.refl [] _) o1 o2
        have f54 := f54.chg (Chg.refl [] _) o1 o2 (fun _ _ h => nomatch h) (fun _ h => ml h)
        have f30 := f30.chg (Chg.refl [] _) o1 o2
        have hM : MS (blkL ao54 ++ (M)) w53 := (MS.app (fun x h => hM.chg (Chg.refl [] _) x (ml h)) (fun x h => hM.chg (Chg.refl [] _) x (mr (mr (h)))))
        exact ⟨kk, Nat.lt_succ_self _, ⟨(s50 ++ ((rd a0 x14).Value)), IntKind.i64.wrap (x14 + (1 : Int)), ao54, cap54, H, (ha.sel (by kernel_rfl)), f1, f54, e_i54, p_i54_M, hC, hM⟩⟩
       have H := H50
       refine wp_seq_k fun K55 hK55 => ?_
       refine wp_region_lit ?_
       refine seg ha 2 [(0, .slice ao1 a0.length cap1), (4, .slice ao12 x13.length cap12), (5, .int .i64 x14), (6, .pointer (some ⟨g32, 0, none⟩)), (7, .int .i64 (((rd a0 x14).Value).length : Int)), (51, .bool (decide ((((rd a0 x14).Value).length : Int) > (255 : Int))))] (by kernel_rfl) fun a ha => ?_
       refine hK55 _ _ ?_; try clear hK55 K55
       refine cnd ha rfl (fun hc56 => ?_) (fun hc56 => ?_)
       ·have H := ite_t hc56 H
        refine wp_region_lit ?_
        refine seg ha 2 [(0, .slice ao1 a0.length cap1), (5, .int .i64 x14), (6, .pointer (some ⟨g32, 0, none⟩)), (7, .int .i64 (((rd a0 x14).Value).length : Int)), (52, .slice ao12 x13.length cap12), (53, .pointer (some ⟨g32, 0, none⟩))] (by kernel_rfl) fun a ha => ?_
        refine ld (v := .int .i64 ((rd a0 x14).Flags)) ha rfl (by kernel_rfl) rfl rfl rfl (hBg32.cell' (o := 0) rfl (by kernel_rfl)) fun a ha => ?_
        refine seg ha 3 [(0, .slice ao1 a0.length cap1), (5, .int .i64 x14), (6, .pointer (some ⟨g32, 0, none⟩)), (7, .int .i64 (((rd a0 x14).Value).length : Int)), (52, .slice ao12 x13.length cap12), (56, .int .u8 (IntKind.u8.wrap (IntKind.i64.wrap (((rd a0 x14).Flags) + (16 : Int))))), (57, .pointer (some ⟨g32, 1, none⟩))] (by kernel_rfl) fun a ha => ?_
        refine ld (v := .int .i64 ((rd a0 x14).Kind)) ha rfl (by kernel_rfl) rfl rfl rfl (hBg32.cell' (o := 1) rfl (by kernel_rfl)) fun a ha => ?_
        refine seg ha 6 [(0, .slice ao1 a0.length cap1), (5, .int .i64 x14), (6, .pointer (some ⟨g32, 0, none⟩)), (52, .slice ao12 x13.length cap12), (56, .int .u8 (IntKind.u8.wrap (IntKind.i64.wrap (((rd a0 x14).Flags) + (16 : Int))))), (59, .int .u8 (IntKind.u8.wrap ((rd a0 x14).Kind))), (62, .int .u8 (IntKind.u8.wrap (IntKind.i64.wrap (Int.tdiv (((rd a0 x14).Value).length : Int) (256 : Int))))), (64, .int .u8 (IntKind.u8.wrap (((rd a0 x14).Value).length : Int)))] (by kernel_rfl) fun a ha => ?_
        refine bsl (vals := ([.int .u8 (IntKind.u8.wrap (IntKind.i64.wrap (((rd a0 x14).Flags) + (16 : Int)))), .int .u8 (IntKind.u8.wrap ((rd a0 x14).Kind)), .int .u8 (IntKind.u8.wrap (IntKind.i64.wrap (Int.tdiv (((rd a0 x14).Value).length : Int) (256 : Int)))), .int .u8 (IntKind.u8.wrap (((rd a0 x14).Value).length : Int))] : List Value)) (T := 5) ha rfl (([.int .u8 (IntKind.u8.wrap (IntKind.i64.wrap (((rd a0 x14).Flags) + (16 : Int))))] : List Value) ++ (([.int .u8 (IntKind.u8.wrap ((rd a0 x14).Kind))] : List Value) ++ (([.int .u8 (IntKind.u8.wrap (IntKind.i64.wrap (Int.tdiv (((rd a0 x14).Value).length : Int) (256 : Int))))] : List Value) ++ (([.int .u8 (IntKind.u8.wrap (((rd a0 x14).Value).length : Int))] : List Value) ++ ([] : List Value))))) (fun w => by kernel_rfl) rfl rfl rfl fun a w57 g58 hN59 ha => ?_
        have o1 : Ok [] ([g32] ++ (blkL ao12 ++ (M))) w39.heap.size := Ok.nil _ _
        have o2 : Ok ([g58] ++ ([g32] ++ (blkL ao12 ++ (M)))) ([g32] ++ (blkL ao12 ++ (M))) w39.heap.size := (Ok.app (hN59.ok _) (Ok.refl _ _))
        have f1 := f1.chg hN59.chg o1 o2
        have f12 := f12.chg hN59.chg o1 o2 (fun _ _ h => nomatch h) (fun _ h => mr (mr (ml h)))
        have f30 := f30.chg hN59.chg o1 o2
        have hBg32 := hBg32.chg hN59.chg (fun h => nomatch h)
        have p_i60_i34 : ∀ x ∈ [g58], x ∉ ([g32]) := fun x hx hy => absurd (hM x (ml hy)) (Nat.not_lt.2 ((hN59.ge1) x hx))
        have p_i60_i12 : ∀ x ∈ [g58], x ∉ (blkL ao12) := fun x hx hy => absurd (hM x (mr (ml hy))) (Nat.not_lt.2 ((hN59.ge1) x hx))
        have p_i60_M : ∀ x ∈ [g58], x ∉ M := fun x hx hy => absurd (hM x (mr (mr (hy)))) (Nat.not_lt.2 ((hN59.ge1) x hx))
        have e_i60 : ∀ x ∈ [g58], w.heap.size ≤ x := fun x hx => Nat.le_trans hC.size ((hN59.ge1) x hx)
        have hM : MS ([g58] ++ ([g32] ++ (blkL ao12 ++ (M)))) w57 := (MS.app hN59.ms (hM.chg hN59.chg))
        have hC := hC.trans hN59.chg (Ok.nil _ _)
        have f61 : Own (rInt .u8) 5 w57 ([g58] ++ ([g32] ++ (blkL ao12 ++ (M)))) (some ⟨g58, 0, none⟩) 4 ([IntKind.u8.wrap (IntKind.i64.wrap (((rd a0 x14).Flags) + (16 : Int))), IntKind.u8.wrap ((rd a0 x14).Kind), IntKind.u8.wrap (IntKind.i64.wrap (Int.tdiv (((rd a0 x14).Value).length : Int) (256 : Int))), IntKind.u8.wrap (((rd a0 x14).Value).length : Int)] : List Int) := hN59.own ⟨([.int .u8 (IntKind.u8.wrap (IntKind.i64.wrap (((rd a0 x14).Flags) + (16 : Int))))] : List Value), _, rfl, rfl, ⟨([.int .u8 (IntKind.u8.wrap ((rd a0 x14).Kind))] : List Value), _, rfl, rfl, ⟨([.int .u8 (IntKind.u8.wrap (IntKind.i64.wrap (Int.tdiv (((rd a0 x14).Value).length : Int) (256 : Int))))] : List Value), _, rfl, rfl, ⟨([.int .u8 (IntKind.u8.wrap (((rd a0 x14).Value).length : Int))] : List Value), _, rfl, rfl, rfl⟩⟩⟩⟩ (Nat.le_of_ble_eq_true rfl)
        obtain ⟨hx62, H⟩ := ite_some H
        refine app (r := (rInt .u8)) (xs := x13) (ys := ([IntKind.u8.wrap (IntKind.i64.wrap (((rd a0 x14).Flags) + (16 : Int))), IntKind.u8.wrap ((rd a0 x14).Kind), IntKind.u8.wrap (IntKind.i64.wrap (Int.tdiv (((rd a0 x14).Value).length : Int) (256 : Int))), IntKind.u8.wrap (((rd a0 x14).Value).length : Int)] : List Int)) ha (ElemT.mk' (bytes := 1) (by kernel_rfl)) rfl rfl rfl rfl rfl f12 f61.src hx62 (by decide) fun a w63 ao64 cap64 hO64 hc64 hk64 hl64 ha => ?_
        have o1 : Ok (blkL ao12) ([g58] ++ ([g32] ++ (blkL ao12 ++ (M)))) w57.heap.size := (fun _ h => .inl (mr (mr (ml h))))
        have o2 : Ok (blkL ao64 ++ ([g58] ++ ([g32] ++ (M)))) ([g58] ++ ([g32] ++ (blkL ao12 ++ (M)))) w57.heap.size := (Ok.app (Ok.to hk64 (fun _ h => mr (mr (ml h)))) (Ok.app (fun _ h => .inl (ml h)) (Ok.app (fun _ h => .inl (mr (ml h))) (fun _ h => .inl (mr (mr (mr (h))))))))
        have f1 := f1.chg hc64 o1 o2
        have f61 := f61.chg hc64 o1 o2 p_i60_i12 (fun _ h => mr (ml h))
        have f30 := f30.chg hc64 o1 o2
        have hBg32 := hBg32.chg hc64 (p_i34_i12 g32 (by simp))
        have p_i64_i60 : ∀ x ∈ blkL ao64, x ∉ ([g58]) := fun x hx hy => (hk64 x hx).elim (fun h => (fun x hx hy => p_i60_i12 x hy hx) x h hy) (fun h => absurd (hM x (ml hy)) (Nat.not_lt.2 h))
        have p_i64_i34 : ∀ x ∈ blkL ao64, x ∉ ([g32]) := fun x hx hy => (hk64 x hx).elim (fun h => (fun x hx hy => p_i34_i12 x hy hx) x h hy) (fun h => absurd (hM x (mr (ml hy))) (Nat.not_lt.2 h))
        have p_i64_M : ∀ x ∈ blkL ao64, x ∉ M := fun x hx hy => (hk64 x hx).elim (fun h => p_i12_M x h hy) (fun h => absurd (hM x (mr (mr (mr (hy))))) (Nat.not_lt.2 h))
        have e_i64 : ∀ x ∈ blkL ao64, w.heap.size ≤ x := fun x hx => (hk64 x hx).elim (e_i12 x) (Nat.le_trans hC.size)
        have hM : MS (blkL ao64 ++ ([g58] ++ ([g32] ++ (M)))) w63 := (MS.app hl64 (MS.app (fun x h => hM.chg hc64 x (ml h)) (MS.app (fun x h => hM.chg hc64 x (mr (ml h))) (fun x h => hM.chg hc64 x (mr (mr (mr (h))))))))
        have hC := hC.trans hc64 (fun x h => .inr (e_i12 x h))
        have f64 := hO64.chg (M' := blkL ao64 ++ ([g58] ++ ([g32] ++ (M)))) (Chg.refl [] _) (Ok.nil _ _) (Ok.app (fun _ h => .inl (ml h)) (Ok.to (Ok.app (fun _ h => .inl (ml h)) (Ok.app (fun _ h => .inl (mr (ml h))) (fun _ h => .inl (mr (mr (mr (h))))))) (fun _ h => mr h))) (fun _ _ h => nomatch h) (fun _ h => ml h)
        refine seg ha 1 [(0, .slice ao1 a0.length cap1), (4, .slice ao64 (x13 ++ ([IntKind.u8.wrap (IntKind.i64.wrap (((rd a0 x14).Flags) + (16 : Int))), IntKind.u8.wrap ((rd a0 x14).Kind), IntKind.u8.wrap (IntKind.i64.wrap (Int.tdiv (((rd a0 x14).Value).length : Int) (256 : Int))), IntKind.u8.wrap (((rd a0 x14).Value).length : Int)] : List Int)).length cap64), (5, .int .i64 x14), (6, .pointer (some ⟨g32, 0, none⟩))] (by kernel_rfl) fun a ha => ?_
        obtain rfl := Option.some.inj H
        have o1 : Ok [] (blkL ao64 ++ ([g58] ++ ([g32] ++ (M)))) w63.heap.size := Ok.nil _ _
        have o2 : Ok (blkL ao64 ++ ([g32] ++ (M))) (blkL ao64 ++ ([g58] ++ ([g32] ++ (M)))) w63.heap.size := (Ok.app (fun _ h => .inl (ml h)) (fun _ h => .inl (mr (mr (h)))))
        have f1 := f1.chg (Chg.refl [] _) o1 o2
        have f64 := f64.chg (Chg.refl [] _) o1 o2 (fun _ _ h => nomatch h) (fun _ h => ml h)
        have f30 := f30.chg (Chg.refl [] _) o1 o2
        have hM : MS (blkL ao64 ++ ([g32] ++ (M))) w63 := (MS.app (fun x h => hM.chg (Chg.refl [] _) x (ml h)) (fun x h => hM.chg (Chg.refl [] _) x (mr (mr (h)))))
        exact J50 _ _ ao64 cap64 (ha.sel (by kernel_rfl)) f1 f64 f30 hBg32 e_i64 p_i64_i34 p_i64_M hC hM
       ·have H := ite_f hc56 H
        refine wp_region_lit ?_
        refine seg ha 2 [(0, .slice ao1 a0.length cap1), (5, .int .i64 x14), (6, .pointer (some ⟨g32, 0, none⟩)), (7, .int .i64 (((rd a0 x14).Value).length : Int)), (67, .slice ao12 x13.length cap12), (68, .pointer (some ⟨g32, 0, none⟩))] (by kernel_rfl) fun a ha => ?_
        refine ld (v := .int .i64 ((rd a0 x14).Flags)) ha rfl (by kernel_rfl) rfl rfl rfl (hBg32.cell' (o := 0) rfl (by kernel_rfl)) fun a ha => ?_
        refine seg ha 2 [(0, .slice ao1 a0.length cap1), (5, .int .i64 x14), (6, .pointer (some ⟨g32, 0, none⟩)), (7, .int .i64 (((rd a0 x14).Value).length : Int)), (67, .slice ao12 x13.length cap12), (70, .int .u8 (IntKind.u8.wrap ((rd a0 x14).Flags))), (71, .pointer (some ⟨g32, 1, none⟩))] (by kernel_rfl) fun a ha => ?_
        refine ld (v := .int .i64 ((rd a0 x14).Kind)) ha rfl (by kernel_rfl) rfl rfl rfl (hBg32.cell' (o := 1) rfl (by kernel_rfl)) fun a ha => ?_
        refine seg ha 3 [(0, .slice ao1 a0.length cap1), (5, .int .i64 x14), (6, .pointer (some ⟨g32, 0, none⟩)), (67, .slice ao12 x13.length cap12), (70, .int .u8 (IntKind.u8.wrap ((rd a0 x14).Flags))), (73, .int .u8 (IntKind.u8.wrap ((rd a0 x14).Kind))), (75, .int .u8 (IntKind.u8.wrap (((rd a0 x14).Value).length : Int)))] (by kernel_rfl) fun a ha => ?_
        refine bsl (vals := ([.int .u8 (IntKind.u8.wrap ((rd a0 x14).Flags)), .int .u8 (IntKind.u8.wrap ((rd a0 x14).Kind)), .int .u8 (IntKind.u8.wrap (((rd a0 x14).Value).length : Int))] : List Value)) (T := 5) ha rfl (([.int .u8 (IntKind.u8.wrap ((rd a0 x14).Flags))] : List Value) ++ (([.int .u8 (IntKind.u8.wrap ((rd a0 x14).Kind))] : List Value) ++ (([.int .u8 (IntKind.u8.wrap (((rd a0 x14).Value).length : Int))] : List Value) ++ ([] : List Value)))) (fun w => by kernel_rfl) rfl rfl rfl fun a w65 g66 hN67 ha => ?_
        have o1 : Ok [] ([g32] ++ (blkL ao12 ++ (M))) w39.heap.size := Ok.nil _ _
        have o2 : Ok ([g66] ++ ([g32] ++ (blkL ao12 ++ (M)))) ([g32] ++ (blkL ao12 ++ (M))) w39.heap.size := (Ok.app (hN67.ok _) (Ok.refl _ _))
        have f1 := f1.chg hN67.chg o1 o2
        have f12 := f12.chg hN67.chg o1 o2 (fun _ _ h => nomatch h) (fun _ h => mr (mr (ml h)))
        have f30 := f30.chg hN67.chg o1 o2
        have hBg32 := hBg32.chg hN67.chg (fun h => nomatch h)
        have p_i68_i34 : ∀ x ∈ [g66], x ∉ ([g32]) := fun x hx hy => absurd (hM x (ml hy)) (Nat.not_lt.2 ((hN67.ge1) x hx))
        have p_i68_i12 : ∀ x ∈ [g66], x ∉ (blkL ao12) := fun x hx hy => absurd (hM x (mr (ml hy))) (Nat.not_lt.2 ((hN67.ge1) x hx))
        have p_i68_M : ∀ x ∈ [g66], x ∉ M := fun x hx hy => absurd (hM x (mr (mr (hy)))) (Nat.not_lt.2 ((hN67.ge1) x hx))
        have e_i68 : ∀ x ∈ [g66], w.heap.size ≤ x := fun x hx => Nat.le_trans hC.size ((hN67.ge1) x hx)
        have hM : MS ([g66] ++ ([g32] ++ (blkL ao12 ++ (M)))) w65 := (MS.app hN67.ms (hM.chg hN67.chg))
        have hC := hC.trans hN67.chg (Ok.nil _ _)
        have f69 : Own (rInt .u8) 5 w65 ([g66] ++ ([g32] ++ (blkL ao12 ++ (M)))) (some ⟨g66, 0, none⟩) 3 ([IntKind.u8.wrap ((rd a0 x14).Flags), IntKind.u8.wrap ((rd a0 x14).Kind), IntKind.u8.wrap (((rd a0 x14).Value).length : Int)] : List Int) := hN67.own ⟨([.int .u8 (IntKind.u8.wrap ((rd a0 x14).Flags))] : List Value), _, rfl, rfl, ⟨([.int .u8 (IntKind.u8.wrap ((rd a0 x14).Kind))] : List Value), _, rfl, rfl, ⟨([.int .u8 (IntKind.u8.wrap (((rd a0 x14).Value).length : Int))] : List Value), _, rfl, rfl, rfl⟩⟩⟩ (Nat.le_of_ble_eq_true rfl)
        obtain ⟨hx70, H⟩ := ite_some H
        refine app (r := (rInt .u8)) (xs := x13) (ys := ([IntKind.u8.wrap ((rd a0 x14).Flags), IntKind.u8.wrap ((rd a0 x14).Kind), IntKind.u8.wrap (((rd a0 x14).Value).length : Int)] : List Int)) ha (ElemT.mk' (bytes := 1) (by kernel_rfl)) rfl rfl rfl rfl rfl f12 f69.src hx70 (by decide) fun a w71 ao72 cap72 hO72 hc72 hk72 hl72 ha => ?_
        have o1 : Ok (blkL ao12) ([g66] ++ ([g32] ++ (blkL ao12 ++ (M)))) w65.heap.size := (fun _ h => .inl (mr (mr (ml h))))
        have o2 : Ok (blkL ao72 ++ ([g66] ++ ([g32] ++ (M)))) ([g66] ++ ([g32] ++ (blkL ao12 ++ (M)))) w65.heap.size := (Ok.app (Ok.to hk72 (fun _ h => mr (mr (ml h)))) (Ok.app (fun _ h => .inl (ml h)) (Ok.app (fun _ h => .inl (mr (ml h))) (fun _ h => .inl (mr (mr (mr (h))))))))
        have f1 := f1.chg hc72 o1 o2
        have f69 := f69.chg hc72 o1 o2 p_i68_i12 (fun _ h => mr (ml h))
        have f30 := f30.chg hc72 o1 o2
        have hBg32 := hBg32.chg hc72 (p_i34_i12 g32 (by simp))
        have p_i72_i68 : ∀ x ∈ blkL ao72, x ∉ ([g66]) := fun x hx hy => (hk72 x hx).elim (fun h => (fun x hx hy => p_i68_i12 x hy hx) x h hy) (fun h => absurd (hM x (ml hy)) (Nat.not_lt.2 h))
        have p_i72_i34 : ∀ x ∈ blkL ao72, x ∉ ([g32]) := fun x hx hy => (hk72 x hx).elim (fun h => (fun x hx hy => p_i34_i12 x hy hx) x h hy) (fun h => absurd (hM x (mr (ml hy))) (Nat.not_lt.2 h))
        have p_i72_M : ∀ x ∈ blkL ao72, x ∉ M := fun x hx hy => (hk72 x hx).elim (fun h => p_i12_M x h hy) (fun h => absurd (hM x (mr (mr (mr (hy))))) (Nat.not_lt.2 h))
        have e_i72 : ∀ x ∈ blkL ao72, w.heap.size ≤ x := fun x hx => (hk72 x hx).elim (e_i12 x) (Nat.le_trans hC.size)
        have hM : MS (blkL ao72 ++ ([g66] ++ ([g32] ++ (M)))) w71 := (MS.app hl72 (MS.app (fun x h => hM.chg hc72 x (ml h)) (MS.app (fun x h => hM.chg hc72 x (mr (ml h))) (fun x h => hM.chg hc72 x (mr (mr (mr (h))))))))
        have hC := hC.trans hc72 (fun x h => .inr (e_i12 x h))
        have f72 := hO72.chg (M' := blkL ao72 ++ ([g66] ++ ([g32] ++ (M)))) (Chg.refl [] _) (Ok.nil _ _) (Ok.app (fun _ h => .inl (ml h)) (Ok.to (Ok.app (fun _ h => .inl (ml h)) (Ok.app (fun _ h => .inl (mr (ml h))) (fun _ h => .inl (mr (mr (mr (h))))))) (fun _ h => mr h))) (fun _ _ h => nomatch h) (fun _ h => ml h)
        refine seg ha 1 [(0, .slice ao1 a0.length cap1), (4, .slice ao72 (x13 ++ ([IntKind.u8.wrap ((rd a0 x14).Flags), IntKind.u8.wrap ((rd a0 x14).Kind), IntKind.u8.wrap (((rd a0 x14).Value).length : Int)] : List Int)).length cap72), (5, .int .i64 x14), (6, .pointer (some ⟨g32, 0, none⟩))] (by kernel_rfl) fun a ha => ?_
        obtain rfl := Option.some.inj H
        have o1 : Ok [] (blkL ao72 ++ ([g66] ++ ([g32] ++ (M)))) w71.heap.size := Ok.nil _ _
        have o2 : Ok (blkL ao72 ++ ([g32] ++ (M))) (blkL ao72 ++ ([g66] ++ ([g32] ++ (M)))) w71.heap.size := (Ok.app (fun _ h => .inl (ml h)) (fun _ h => .inl (mr (mr (h)))))
        have f1 := f1.chg (Chg.refl [] _) o1 o2
        have f72 := f72.chg (Chg.refl [] _) o1 o2 (fun _ _ h => nomatch h) (fun _ h => ml h)
        have f30 := f30.chg (Chg.refl [] _) o1 o2
        have hM : MS (blkL ao72 ++ ([g32] ++ (M))) w71 := (MS.app (fun x h => hM.chg (Chg.refl [] _) x (ml h)) (fun x h => hM.chg (Chg.refl [] _) x (mr (mr (h)))))
        exact J50 _ _ ao72 cap72 (ha.sel (by kernel_rfl)) f1 f72 f30 hBg32 e_i72 p_i72_i34 p_i72_M hC hM
    have H := H39
    refine seg ha 1 [(0, .slice ao1 a0.length cap1), (4, .slice ao12 x13.length cap12), (5, .int .i64 x14), (6, .pointer (some ⟨g32, 0, none⟩)), (21, .pointer (some ⟨g32, 0, none⟩))] (by kernel_rfl) fun a ha => ?_
    refine ld (v := .int .i64 ((rd a0 x14).Flags)) ha rfl (by kernel_rfl) rfl rfl rfl (hBg32.cell' (o := 0) rfl (by kernel_rfl)) fun a ha => ?_
    refine seg ha 2 [(24, .bool (decide (((rd a0 x14).Flags) < (0 : Int)))), (0, .slice ao1 a0.length cap1), (4, .slice ao12 x13.length cap12), (5, .int .i64 x14), (6, .pointer (some ⟨g32, 0, none⟩))] (by kernel_rfl) fun a ha => ?_
    rcases Bool.eq_false_or_eq_true (decide (((rd a0 x14).Flags) < (0 : Int))) with hb73 | hb73
    ·have ha := ha.lit hb73
     have H := ite_t hb73 H
     refine sgh ha 20 [1, 1, 1, 3, 0, 1, 1, 1, 1, 3, 0, 1, 1, 1, 3, 0, 1, 1, 1, 3] [(0, .slice ao1 a0.length cap1), (4, .slice ao12 x13.length cap12), (5, .int .i64 x14), (6, .pointer (some ⟨g32, 0, none⟩)), (44, .bool true)] (by kernel_rfl) fun a ha => ?_
     obtain rfl := Option.some.inj H
     exact J39 _ _ (ha.sel (by kernel_rfl)) f1 f12 f30 hBg32 hC hM
    ·have ha := ha.lit hb73
     have H := ite_f hb73 H
     refine sgh ha 1 [2] [(0, .slice ao1 a0.length cap1), (4, .slice ao12 x13.length cap12), (5, .int .i64 x14), (6, .pointer (some ⟨g32, 0, none⟩)), (24, .bool false), (25, .pointer (some ⟨g32, 0, none⟩))] (by kernel_rfl) fun a ha => ?_
     refine ld (v := .int .i64 ((rd a0 x14).Flags)) ha rfl (by kernel_rfl) rfl rfl rfl (hBg32.cell' (o := 0) rfl (by kernel_rfl)) fun a ha => ?_
     refine sgh ha 3 [2, 4, 0] [(29, .bool (decide (((rd a0 x14).Flags) > (255 : Int)))), (0, .slice ao1 a0.length cap1), (4, .slice ao12 x13.length cap12), (5, .int .i64 x14), (6, .pointer (some ⟨g32, 0, none⟩))] (by kernel_rfl) fun a ha => ?_
     rcases Bool.eq_false_or_eq_true (decide (((rd a0 x14).Flags) > (255 : Int))) with hb74 | hb74
     ·have ha := ha.lit hb74
      have H := ite_t hb74 H
      refine sgh ha 15 [1, 1, 1, 1, 3, 0, 1, 1, 1, 3, 0, 1, 1, 1, 3] [(0, .slice ao1 a0.length cap1), (4, .slice ao12 x13.length cap12), (5, .int .i64 x14), (6, .pointer (some ⟨g32, 0, none⟩)), (44, .bool true)] (by kernel_rfl) fun a ha => ?_
      obtain rfl := Option.some.inj H
      exact J39 _ _ (ha.sel (by kernel_rfl)) f1 f12 f30 hBg32 hC hM
     ·have ha := ha.lit hb74
      have H := ite_f hb74 H
      refine sgh ha 1 [2] [(0, .slice ao1 a0.length cap1), (4, .slice ao12 x13.length cap12), (5, .int .i64 x14), (6, .pointer (some ⟨g32, 0, none⟩)), (29, .bool false), (30, .pointer (some ⟨g32, 0, none⟩))] (by kernel_rfl) fun a ha => ?_
      refine ld (v := .int .i64 ((rd a0 x14).Flags)) ha rfl (by kernel_rfl) rfl rfl rfl (hBg32.cell' (o := 0) rfl (by kernel_rfl)) fun a ha => ?_
      refine sgh ha 4 [2, 2, 4, 0] [(35, .bool ((IntKind.i64.wrap (BitVec.ofInt IntKind.i64.bits ((rd a0 x14).Flags) &&& BitVec.ofInt IntKind.i64.bits (16 : Int)).toNat) != (0 : Int))), (0, .slice ao1 a0.length cap1), (4, .slice ao12 x13.length cap12), (5, .int .i64 x14), (6, .pointer (some ⟨g32, 0, none⟩))] (by kernel_rfl) fun a ha => ?_
      rcases Bool.eq_false_or_eq_true ((IntKind.i64.wrap (BitVec.ofInt IntKind.i64.bits ((rd a0 x14).Flags) &&& BitVec.ofInt IntKind.i64.bits (16 : Int)).toNat) != (0 : Int)) with hb75 | hb75
      ·have ha := ha.lit hb75
       have H := ite_t hb75 H
       refine sgh ha 9 [1, 1, 1, 3, 0, 1, 1, 1, 3] [(0, .slice ao1 a0.length cap1), (4, .slice ao12 x13.length cap12), (5, .int .i64 x14), (6, .pointer (some ⟨g32, 0, none⟩)), (44, .bool true)] (by kernel_rfl) fun a ha => ?_
       obtain rfl := Option.some.inj H
       exact J39 _ _ (ha.sel (by kernel_rfl)) f1 f12 f30 hBg32 hC hM
      ·have ha := ha.lit hb75
       have H := ite_f hb75 H
       refine sgh ha 1 [2] [(0, .slice ao1 a0.length cap1), (4, .slice ao12 x13.length cap12), (5, .int .i64 x14), (6, .pointer (some ⟨g32, 0, none⟩)), (35, .bool false), (36, .pointer (some ⟨g32, 1, none⟩))] (by kernel_rfl) fun a ha => ?_
       refine ld (v := .int .i64 ((rd a0 x14).Kind)) ha rfl (by kernel_rfl) rfl rfl rfl (hBg32.cell' (o := 1) rfl (by kernel_rfl)) fun a ha => ?_
       refine sgh ha 3 [2, 4, 0] [(40, .bool (decide (((rd a0 x14).Kind) < (0 : Int)))), (0, .slice ao1 a0.length cap1), (4, .slice ao12 x13.length cap12), (5, .int .i64 x14), (6, .pointer (some ⟨g32, 0, none⟩))] (by kernel_rfl) fun a ha => ?_
       rcases Bool.eq_false_or_eq_true (decide (((rd a0 x14).Kind) < (0 : Int))) with hb76 | hb76
       ·have ha := ha.lit hb76
        have H := ite_t hb76 H
        refine sgh ha 4 [1, 1, 1, 3] [(0, .slice ao1 a0.length cap1), (4, .slice ao12 x13.length cap12), (5, .int .i64 x14), (6, .pointer (some ⟨g32, 0, none⟩)), (44, .bool true)] (by kernel_rfl) fun a ha => ?_
        obtain rfl := Option.some.inj H
        exact J39 _ _ (ha.sel (by kernel_rfl)) f1 f12 f30 hBg32 hC hM
       ·have ha := ha.lit hb76
        have H := ite_f hb76 H
        refine sgh ha 1 [2] [(0, .slice ao1 a0.length cap1), (4, .slice ao12 x13.length cap12), (5, .int .i64 x14), (6, .pointer (some ⟨g32, 0, none⟩)), (40, .bool false), (41, .pointer (some ⟨g32, 1, none⟩))] (by kernel_rfl) fun a ha => ?_
        refine ld (v := .int .i64 ((rd a0 x14).Kind)) ha rfl (by kernel_rfl) rfl rfl rfl (hBg32.cell' (o := 1) rfl (by kernel_rfl)) fun a ha => ?_
        refine sgh ha 2 [2, 4] [(0, .slice ao1 a0.length cap1), (4, .slice ao12 x13.length cap12), (5, .int .i64 x14), (6, .pointer (some ⟨g32, 0, none⟩)), (44, .bool (decide (((rd a0 x14).Kind) > (255 : Int))))] (by kernel_rfl) fun a ha => ?_
        obtain rfl := Option.some.inj H
        exact J39 _ _ (ha.sel (by kernel_rfl)) f1 f12 f30 hBg32 hC hM
   ·have H := ite_f hc20 H
    refine wp_exit ?_
    simp only [Exit.then, Exit.inBlock, ↓reduceIte, Nat.reduceEqDiff]
    obtain rfl := Option.some.inj H
    exact J11 _ _ _ ao12 cap12 rfl (ha.sel (by kernel_rfl)) f12 e_i12 p_i12_M hC hM
end Go.E
