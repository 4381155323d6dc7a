/- The plain law: what the walk computes is true, whatever the input. -/
import Derived.Test.YtildkadbjkfgfaaGreatDoorGenJoinsTells
import Derived.Test.YtildkadbjkfgfaaGreatDoorEngR
set_option linter.unusedVariables false
set_option linter.unusedSimpArgs false
namespace Go.E
open Go.RowKit Go.Sort
/-! rows in order, each once -/
section
variable {α : Type} {lt : α → α → Prop}
theorem dd_gen (hirr : ∀ x, ¬ lt x x) (htr : ∀ x y z, lt x y → lt y z → lt x z) (xs : List α) (hs : xs.Pairwise (fun x y => lt x y ∨ x = y)) (D : Nat → List α) (h0 : D 0 = [])
    (hy : ∀ m (h : m < xs.length), (m = 0 ∨ xs[m]? ≠ xs[m - 1]?) → D (m + 1) = D m ++ [xs[m]]) (hn : ∀ m (h : m < xs.length), m ≠ 0 → xs[m]? = xs[m - 1]? → D (m + 1) = D m) :
    ∀ m, m ≤ xs.length → (D m).Pairwise lt ∧ ∀ y, y ∈ D m ↔ y ∈ xs.take m
  | 0, _ => ⟨by simp [h0], by simp [h0]⟩
  | m + 1, hm => by
    obtain ⟨ih1, ih2⟩ := dd_gen hirr htr xs hs D h0 hy hn m (by omega)
    have hml : m < xs.length := by omega
    have ht : xs.take (m + 1) = xs.take m ++ [xs[m]] := by rw [List.take_add_one, List.getElem?_eq_getElem hml]; rfl
    by_cases hk : m = 0 ∨ xs[m]? ≠ xs[m - 1]?
    · rw [hy m hml hk, ht]
      refine ⟨?_, fun y => by rw [List.mem_append, List.mem_append, ih2]⟩
      rw [List.pairwise_append]
      refine ⟨ih1, List.pairwise_singleton _ _, fun y hy' z hz => ?_⟩
      rw [List.mem_singleton] at hz
      subst hz
      obtain ⟨j, hj, rfl⟩ := List.getElem_of_mem ((ih2 y).1 hy')
      have hjm : j < m := by rw [List.length_take] at hj; omega
      rw [List.getElem_take]
      have hm1 : m - 1 < xs.length := by omega
      have hne : xs[m - 1] ≠ xs[m] := by
        intro e
        rcases hk with hk | hk
        · omega
        · rw [List.getElem?_eq_getElem hml, List.getElem?_eq_getElem hm1, e] at hk; exact hk rfl
      have l1 : lt xs[m - 1] xs[m] := (List.pairwise_iff_getElem.1 hs (m - 1) m hm1 hml (by omega)).resolve_right hne
      by_cases hj1 : j = m - 1
      · subst hj1; exact l1
      · rcases List.pairwise_iff_getElem.1 hs j (m - 1) (by omega) hm1 (by omega) with h | h
        · exact htr _ _ _ h l1
        · rw [h]; exact l1
    · have hm0 : m ≠ 0 := fun e => hk (.inl e)
      have he : xs[m]? = xs[m - 1]? := Classical.byContradiction fun h => hk (.inr h)
      rw [hn m hml hm0 he, ht]
      refine ⟨ih1, fun y => ?_⟩
      rw [ih2, List.mem_append, List.mem_singleton]
      refine ⟨.inl, fun h => h.elim id fun e => ?_⟩
      have hm1 : m - 1 < xs.length := by omega
      rw [List.getElem?_eq_getElem hml, List.getElem?_eq_getElem hm1] at he
      rw [e, Option.some.inj he]
      exact List.mem_take_iff_getElem.2 ⟨m - 1, by omega, rfl⟩
theorem rows_unique (hirr : ∀ x, ¬ lt x x) (htr : ∀ x y z, lt x y → lt y z → lt x z) {a b : List α} (ha : a.Pairwise lt) (hb : b.Pairwise lt) (h : ∀ y, y ∈ a ↔ y ∈ b) : a = b := by
  have nd : ∀ {c : List α}, c.Pairwise lt → c.Nodup := fun hc => hc.imp fun {x y} hxy e => by subst e; exact hirr _ hxy
  have hp : a.Perm b := (List.perm_ext_iff_of_nodup (nd ha) (nd hb)).2 h
  exact List.Perm.eq_of_pairwise (le := lt) (fun x y _ _ h1 h2 => absurd (htr _ _ _ h1 h2) (hirr _)) ha hb hp
/-- a row that rises, with one more put in -/
theorem ins_rise (hirr : ∀ x, ¬ lt x x) (htr : ∀ x y z, lt x y → lt y z → lt x z) {out : List α} (hs : out.Pairwise lt) (x : α) (k : Nat) (hk : k ≤ out.length) (h1 : ∀ i (h : i < out.length), i < k → lt out[i] x) (h2 : ∀ (h : k < out.length), lt x out[k]) :
    (out.take k ++ ([x] ++ out.drop k)).Pairwise lt ∧ ∀ y, y ∈ out.take k ++ ([x] ++ out.drop k) ↔ y = x ∨ y ∈ out := by
  have hd : ∀ y ∈ out.drop k, lt x y := by
    intro y hy
    obtain ⟨i, hi, rfl⟩ := List.getElem_of_mem hy
    rw [List.length_drop] at hi
    rw [List.getElem_drop]
    have hkl : k < out.length := by omega
    by_cases e : i = 0
    · subst e; exact h2 hkl
    · exact htr _ _ _ (h2 hkl) (List.pairwise_iff_getElem.1 hs k (k + i) hkl (by omega) (by omega))
  have ht : ∀ y ∈ out.take k, lt y x := by
    intro y hy
    obtain ⟨i, hi, rfl⟩ := List.getElem_of_mem hy
    rw [List.length_take] at hi
    rw [List.getElem_take]
    exact h1 i (by omega) (by omega)
  constructor
  · rw [List.pairwise_append]
    refine ⟨hs.sublist (List.take_sublist _ _), ?_, ?_⟩
    · rw [List.singleton_append, List.pairwise_cons]
      exact ⟨hd, hs.sublist (List.drop_sublist _ _)⟩
    · intro y hy z hz
      rw [List.singleton_append, List.mem_cons] at hz
      rcases hz with rfl | hz
      · exact ht y hy
      · exact htr _ _ _ (ht y hy) (hd z hz)
  · intro y
    conv => rhs; rw [← List.take_append_drop k out]
    simp only [List.mem_append, List.mem_singleton]
    constructor
    · rintro (h | h | h)
      · exact .inr (.inl h)
      · exact .inl h
      · exact .inr (.inr h)
    · rintro (h | h | h)
      · exact .inr (.inl h)
      · exact .inl h
      · exact .inr (.inr h)
end
theorem rdA {α : Type} [Inhabited α] (l : List α) (i : Nat) (hi : i < l.length) : rd l (i : Int) = l[i] := by simp [rd, List.getD, hi]
theorem bstrL (l : List UInt8) : (bstr l).toList = l := by rw [ByteArray.toList_eq]; simp [bstr]
theorem bless (x y : List UInt8) : Op.bytesLess x y = decide (x < y) := Go.Proofs.bytesLess_eq x y
theorem wrapS (i : Nat) (h : i < 1000000) : IntKind.i64.wrap ((i : Int) + 1) = ((i + 1 : Nat) : Int) := by rw [IntKind.wrap_i64]; omega
def asksB (j : S_api_Join) (f : S_api_Flow) : Bool := j.Vrf == f.Vrf && (eqAd j.Group f.Group && (j.Source.Size == 0 || eqAd j.Source f.Source))
theorem asks_f (j : S_api_Join) (f : S_api_Flow) : joins_Ifaces_1.f j f = some (asksB j f) := by
  unfold joins_Ifaces_1.f joins_asks.f asksB eqAd
  simp only [bstrL]
  by_cases h1 : j.Vrf = f.Vrf <;> by_cases h2 : j.Group.Size = f.Group.Size <;> cases h3 : eqA 16 j.Group.B f.Group.B <;> by_cases h4 : j.Source.Size = 0 <;> simp [h1, h2, h4]
def gS (l : List S_api_Join) (f : S_api_Flow) : List (List UInt8) := (l.filter (asksB · f)).map (·.Iface)
theorem gath_l0 (l : List S_api_Join) (f : S_api_Flow) (hl : l.length ≤ 1000) : ∀ (n kk i : Nat) (x8 : List (List UInt8)), i + n = l.length → n < kk → x8.length ≤ i → joins_gathered_string_joins_Ifaces_1_joins_Ifaces_2_cmp_Compare_string.l0 l f kk x8 (i : Int) = some (x8 ++ gS (l.drop i) f)
  | 0, kk + 1, i, x8, hi, _, _ => by
    rw [joins_gathered_string_joins_Ifaces_1_joins_Ifaces_2_cmp_Compare_string.l0, if_neg (by simp; omega), List.drop_eq_nil_of_le (by omega)]
    simp [gS]
  | n + 1, kk + 1, i, x8, hi, hk, hx => by
    have hil : i < l.length := by omega
    have ed : l.drop i = l[i] :: l.drop (i + 1) := List.drop_eq_getElem_cons hil
    rw [joins_gathered_string_joins_Ifaces_1_joins_Ifaces_2_cmp_Compare_string.l0, if_pos (by simp; omega), if_pos (by omega), rdA l i hil, asks_f, Option.bind_some, wrapS i (by omega)]
    unfold gS
    rw [ed, List.filter_cons]
    by_cases h : asksB l[i] f = true
    · rw [if_pos h, if_pos h]
      show (some l[i].Iface).bind _ = _
      rw [Option.bind_some, if_pos (by simp; omega), gath_l0 l f hl n kk (i + 1) _ (by omega) (by omega) (by simp; omega)]
      simp [gS]
    · rw [if_neg h, if_neg h, gath_l0 l f hl n kk (i + 1) _ (by omega) (by omega) (by omega)]
      rfl
def ifc (l : List S_api_Join) (f : S_api_Flow) : List (List UInt8) := Go.Lib.compact ((gS l f).mergeSort leS)
theorem ifaces_f (k : Nat) (l : List S_api_Join) (f : S_api_Flow) (hl : l.length ≤ 1000) (hk : l.length < k) : joins_Ifaces.f k l f = some (ifc l f) := by
  have h := gath_l0 l f hl l.length k 0 [] (by omega) (by omega) (Nat.le_refl _)
  have hlen : (gS l f).length ≤ l.length := by unfold gS; rw [List.length_map]; exact List.length_filter_le _ _
  unfold joins_Ifaces.f joins_gathered_string_joins_Ifaces_1_joins_Ifaces_2_cmp_Compare_string.f
  rw [show (0 : Int) = ((0 : Nat) : Int) from rfl, h, List.nil_append, List.drop_zero, Option.bind_some]
  unfold slices_SortS.f
  rw [if_pos (by omega), Option.bind_some]
  unfold slices_CompS.f
  rw [if_pos (by rw [List.length_mergeSort]; omega)]
  rfl
theorem comp_spec (zs : List (List UInt8)) (hs : zs.Pairwise (fun x y => x < y ∨ x = y)) : (Go.Lib.compact zs).Pairwise (· < ·) ∧ ∀ y, y ∈ Go.Lib.compact zs ↔ y ∈ zs := by
  have key := dd_gen (lt := fun x y : List UInt8 => x < y) (fun x => List.lt_irrefl x) (fun x y z => List.lt_trans) zs hs (fun m => Go.Lib.compactUpTo zs.toArray m) (by simp [Go.Lib.compactUpTo]) ?_ ?_ zs.length (Nat.le_refl _)
  · rw [List.take_length] at key; exact key
  · intro m h hm
    rw [Go.Lib.compactUpTo_succ]
    have e : zs.toArray[m]! = zs[m] := by simp [h]
    have hk : Go.Lib.keeps zs.toArray m = true := by
      unfold Go.Lib.keeps
      apply decide_eq_true
      rcases hm with hm | hm
      · exact .inl hm
      · by_cases h0 : m = 0
        · exact .inl h0
        · refine .inr fun ee => hm ?_
          have h1 : m - 1 < zs.length := by omega
          rw [List.getElem?_eq_getElem h, List.getElem?_eq_getElem h1]
          have e1 : zs.toArray[m - 1]! = zs[m - 1] := by simp [h1]
          rw [e, e1] at ee; rw [ee]
    rw [if_pos hk, e]
  · intro m h h0 hm
    rw [Go.Lib.compactUpTo_succ]
    have h1 : m - 1 < zs.length := by omega
    have hk : Go.Lib.keeps zs.toArray m = false := by
      unfold Go.Lib.keeps
      apply decide_eq_false
      rintro (hh | hh)
      · exact h0 hh
      · apply hh
        rw [List.getElem?_eq_getElem h, List.getElem?_eq_getElem h1] at hm
        have e : zs.toArray[m]! = zs[m] := by simp [h]
        have e1 : zs.toArray[m - 1]! = zs[m - 1] := by simp [h1]
        rw [e, e1]; exact Option.some.inj hm
    rw [hk]; simp
theorem leS_iff (x y : List UInt8) : leS x y = true ↔ x < y ∨ x = y := by
  simp only [leS, Bool.not_eq_true', decide_eq_false_iff_not, sgnS_lt, List.not_lt]
  constructor
  · intro h
    by_cases hl : x < y
    · exact .inl hl
    · exact .inr (List.le_antisymm h (List.not_lt.1 hl))
  · rintro (h | rfl)
    · exact List.le_of_lt h
    · exact List.le_refl _
theorem sortS_rise (l : List (List UInt8)) : (l.mergeSort leS).Pairwise (fun x y => x < y ∨ x = y) := by
  have := List.pairwise_mergeSort (le := leS) (fun a b c h1 h2 => by
    rw [leS_iff] at *
    rcases h1 with h1 | rfl
    · rcases h2 with h2 | rfl
      · exact .inl (List.lt_trans h1 h2)
      · exact .inl h1
    · exact h2) (fun a b => by
    rw [Bool.or_eq_true, leS_iff, leS_iff]
    by_cases h : a < b
    · exact .inl (.inl h)
    · rcases List.not_lt.1 h with _
      by_cases h2 : b < a
      · exact .inr (.inl h2)
      · exact .inl (.inr (List.le_antisymm (List.not_lt.1 h2) (List.not_lt.1 h)))) l
  exact this.imp fun h => (leS_iff _ _).1 h
theorem ifc_spec (l : List S_api_Join) (f : S_api_Flow) : (ifc l f).Pairwise (· < ·) ∧ ∀ y, y ∈ ifc l f ↔ y ∈ gS l f := by
  obtain ⟨h1, h2⟩ := comp_spec _ (sortS_rise (gS l f))
  exact ⟨h1, fun y => (h2 y).trans (List.mergeSort_perm _ _).mem_iff⟩
theorem rif_l1 (l : List S_api_Join) (out : List (List UInt8)) (j : Nat) (hj : j < l.length) (ho : out.length ≤ 1000) : ∀ (n kk i : Nat), i + n = out.length → n < kk → (∀ q (h : q < out.length), q < i → out[q] < l[j].Iface) →
    ∃ p : Nat, vineryref20_Ifaces.l1 l out (j : Int) kk (i : Int) = some (p : Int) ∧ p ≤ out.length ∧ (∀ q (h : q < out.length), q < p → out[q] < l[j].Iface) ∧ (∀ h : p < out.length, ¬ out[p] < l[j].Iface)
  | 0, kk + 1, i, hi, _, h => by
    refine ⟨i, ?_, by omega, h, fun hh => by omega⟩
    rw [vineryref20_Ifaces.l1, if_neg (by simp; omega), Option.bind_some, if_neg (by simp)]
  | n + 1, kk + 1, i, hi, hk, h => by
    have hil : i < out.length := by omega
    rw [vineryref20_Ifaces.l1, if_pos (by simp; omega), if_pos (by omega), rdA out i hil, rdA l j hj, bstrL, bstrL, bless, Option.bind_some]
    by_cases hc : out[i] < l[j].Iface
    · rw [if_pos (by simpa using hc), wrapS i (by omega)]
      refine rif_l1 l out j hj ho n kk (i + 1) (by omega) (by omega) fun q hq hqi => ?_
      by_cases e : q = i
      · subst e; exact hc
      · exact h q hq (by omega)
    · rw [if_neg (by simpa using hc)]
      exact ⟨i, rfl, by omega, h, fun _ => hc⟩
theorem gS_snoc (l : List S_api_Join) (f : S_api_Flow) (i : Nat) (hi : i < l.length) (y : List UInt8) : y ∈ gS (l.take (i + 1)) f ↔ y ∈ gS (l.take i) f ∨ (asksB l[i] f = true ∧ y = l[i].Iface) := by
  have e : l.take (i + 1) = l.take i ++ [l[i]] := by rw [List.take_add_one, List.getElem?_eq_getElem hi]; rfl
  unfold gS
  rw [e, List.filter_append, List.map_append, List.mem_append]
  by_cases h : asksB l[i] f = true
  · simp [h]
  · simp [h]
theorem skip_f (j : S_api_Join) (f : S_api_Flow) : (if (!((bstr j.Vrf).toList == (bstr f.Vrf).toList)) = true then some (true : Bool) else (if (!(((j.Group.Size) == f.Group.Size) && ((eqA 16 (j.Group.B) f.Group.B) && true))) = true then some (true : Bool) else (if ((j.Source.Size) != (0 : Int)) = true then some (!(((j.Source.Size) == f.Source.Size) && ((eqA 16 (j.Source.B) f.Source.B) && true)) : Bool) else some (false : Bool)))) = some (!asksB j f) := by
  unfold asksB eqAd
  simp only [bstrL]
  by_cases h1 : j.Vrf = f.Vrf <;> by_cases h2 : j.Group.Size = f.Group.Size <;> cases h3 : eqA 16 j.Group.B f.Group.B <;> by_cases h4 : j.Source.Size = 0 <;> simp [h1, h2, h4]
theorem rif_l0 (k : Nat) (l : List S_api_Join) (f : S_api_Flow) (hl : l.length ≤ 900) (hk9 : 1000 < k) : ∀ (n kk i : Nat) (out : List (List UInt8)), i + n = l.length → n < kk → out.length ≤ i → out.Pairwise (· < ·) → (∀ y, y ∈ out ↔ y ∈ gS (l.take i) f) →
    ∃ r, vineryref20_Ifaces.l0 k l f kk out (i : Int) = some r ∧ r.Pairwise (· < ·) ∧ ∀ y, y ∈ r ↔ y ∈ gS l f
  | 0, kk + 1, i, out, hi, _, _, hs, hm => by
    refine ⟨out, ?_, hs, fun y => ?_⟩
    · rw [vineryref20_Ifaces.l0, if_neg (by simp; omega)]
    · rw [hm, List.take_of_length_le (by omega)]
  | n + 1, kk + 1, i, out, hi, hkk, ho, hs, hm => by
    have hil : i < l.length := by omega
    rw [vineryref20_Ifaces.l0, if_pos (by simp; omega), if_pos (by omega)]
    simp only [rdA l i hil]
    rw [skip_f, Option.bind_some, wrapS i (by omega)]
    by_cases ha : asksB l[i] f = true
    rotate_left
    · rw [if_pos (by simp [ha])]
      exact rif_l0 k l f hl hk9 n kk (i + 1) out (by omega) (by omega) (by omega) hs fun y => by rw [hm, gS_snoc l f i hil]; simp [ha]
    rw [if_neg (by simp [ha])]
    obtain ⟨p, e1, p1, p2, p3⟩ := rif_l1 l out i hil (by omega) out.length k 0 (by omega) (by omega) (fun q _ h => by omega)
    rw [show (0 : Int) = ((0 : Nat) : Int) from rfl, e1, Option.bind_some]
    have skip : ∀ h : p < out.length, out[p] = l[i].Iface → ∃ r, vineryref20_Ifaces.l0 k l f kk out ((i + 1 : Nat) : Int) = some r ∧ r.Pairwise (· < ·) ∧ ∀ y, y ∈ r ↔ y ∈ gS l f := fun h e => by
      refine rif_l0 k l f hl hk9 n kk (i + 1) out (by omega) (by omega) (by omega) hs fun y => ?_
      rw [gS_snoc l f i hil, ← hm]
      refine ⟨.inl, fun hy => hy.elim id fun hy => ?_⟩
      rw [hy.2, ← e]; exact List.getElem_mem _
    have put : (p = out.length ∨ ∃ h : p < out.length, out[p] ≠ l[i].Iface) → ∃ r, vineryref20_Ifaces.l0 k l f kk (out.take p ++ ([l[i].Iface] ++ out.drop p)) ((i + 1 : Nat) : Int) = some r ∧ r.Pairwise (· < ·) ∧ ∀ y, y ∈ r ↔ y ∈ gS l f := fun hp => by
      have hr := ins_rise (lt := fun x y : List UInt8 => x < y) (fun x => List.lt_irrefl x) (fun x y z => List.lt_trans) hs l[i].Iface p p1 p2 (fun h => by
        rcases hp with hp | ⟨_, hp⟩
        · omega
        · have h3 := p3 h
          by_cases hx : l[i].Iface < out[p]
          · exact hx
          · exact absurd (List.le_antisymm (List.not_lt.1 hx) (List.not_lt.1 h3)) hp)
      refine rif_l0 k l f hl hk9 n kk (i + 1) _ (by omega) (by omega) (by simp; omega) hr.1 fun y => ?_
      rw [hr.2, gS_snoc l f i hil, hm]
      simp only [ha, true_and]
      exact Or.comm
    have e4 : ((([] : List (List UInt8)) ++ ((out.take (Int.toNat (p : Int))).drop (Int.toNat ((0 : Nat) : Int)))) ++ ([l[i].Iface] : List (List UInt8))) ++ ((out.take (Int.toNat (out.length : Int))).drop (Int.toNat (p : Int))) = out.take p ++ ([l[i].Iface] ++ out.drop p) := by simp
    have l1 : ((([] : List (List UInt8)).length + ((out.take (Int.toNat (p : Int))).drop (Int.toNat ((0 : Nat) : Int))).length) * 16 ≤ 140737488355328) := by simp; omega
    have l2 : (((([] : List (List UInt8)) ++ ((out.take (Int.toNat (p : Int))).drop (Int.toNat ((0 : Nat) : Int)))).length + ([l[i].Iface] : List (List UInt8)).length) * 16 ≤ 140737488355328) := by simp; omega
    have l3 : (((([] : List (List UInt8)) ++ ((out.take (Int.toNat (p : Int))).drop (Int.toNat ((0 : Nat) : Int)))) ++ ([l[i].Iface] : List (List UInt8))).length + ((out.take (Int.toNat (out.length : Int))).drop (Int.toNat (p : Int))).length) * 16 ≤ 140737488355328 := by simp; omega
    by_cases hpl : p < out.length
    · rw [if_pos (by simp; omega), if_pos (by omega), rdA out p hpl, bstrL, bstrL, Option.bind_some]
      by_cases he : out[p] = l[i].Iface
      · rw [if_pos (by simpa using he)]
        exact skip hpl he
      · rw [if_neg (by simpa using he), if_pos (by omega), if_pos l1, if_pos l2, if_pos (by omega), if_pos l3, e4]
        exact put (.inr ⟨hpl, he⟩)
    · rw [if_neg (by simp; omega), Option.bind_some, if_neg (by decide), if_pos (by omega), if_pos l1, if_pos l2, if_pos (by omega), if_pos l3, e4]
      exact put (.inl (by omega))
theorem refIfaces_f (k : Nat) (l : List S_api_Join) (f : S_api_Flow) (hl : l.length ≤ 900) (hk : 1000 < k) : vineryref20_Ifaces.f k l f = some (ifc l f) := by
  obtain ⟨r, h1, h2, h3⟩ := rif_l0 k l f hl hk l.length k 0 [] (by omega) (by omega) (Nat.le_refl _) List.Pairwise.nil (fun y => by simp [gS])
  obtain ⟨s1, s2⟩ := ifc_spec l f
  have e : r = ifc l f := rows_unique (lt := fun x y : List UInt8 => x < y) (fun x => List.lt_irrefl x) (fun x y z => List.lt_trans) h2 s1 (fun y => (h3 y).trans (s2 y).symm)
  unfold vineryref20_Ifaces.f
  rw [show (0 : Int) = ((0 : Nat) : Int) from rfl, h1, e]; rfl
theorem sameT_l0 (a : List (List UInt8)) (ha : a.length ≤ 1000) : ∀ (n kk i : Nat), i + n = a.length → n < kk → vineryref20_SameTexts.l0 a a kk (i : Int) = some (.inr ())
  | 0, kk + 1, i, hi, _ => by rw [vineryref20_SameTexts.l0, if_neg (by simp; omega)]
  | n + 1, kk + 1, i, hi, hk => by
    rw [vineryref20_SameTexts.l0, if_pos (by simp; omega), if_pos (by omega), if_pos (by omega), if_neg (by simp), wrapS i (by omega)]
    exact sameT_l0 a ha n kk (i + 1) (by omega) (by omega)
theorem sameT_f (k : Nat) (a : List (List UInt8)) (ha : a.length ≤ 1000) (hk : a.length < k) : vineryref20_SameTexts.f k a a = some true := by
  unfold vineryref20_SameTexts.f
  rw [if_neg (by simp), show (0 : Int) = ((0 : Nat) : Int) from rfl, sameT_l0 a ha a.length k 0 (by omega) hk]; rfl
theorem u8_tri {x y : UInt8} (h : ¬ x < y) (h' : ¬ y < x) : x = y := UInt8.le_antisymm (UInt8.not_lt.1 h') (UInt8.not_lt.1 h)
theorem cb_cons (x y : UInt8) (xs ys : List UInt8) : Go.Lib.compareBytes (x :: xs) (y :: ys) = if x < y then -1 else if y < x then 1 else Go.Lib.compareBytes xs ys := rfl
theorem cmp_eq0 : ∀ (a b : List UInt8), Go.Lib.compareBytes a b = 0 ↔ a = b
  | [], [] => by simp [Go.Lib.compareBytes]
  | [], _ :: _ => by simp [Go.Lib.compareBytes]
  | _ :: _, [] => by simp [Go.Lib.compareBytes]
  | x :: xs, y :: ys => by
    rw [cb_cons]
    by_cases h : x < y
    · rw [if_pos h]
      refine ⟨fun h => absurd h (by decide), fun e => ?_⟩
      injection e with e _; subst e; exact absurd h (UInt8.lt_irrefl _)
    · rw [if_neg h]
      by_cases h' : y < x
      · rw [if_pos h']
        refine ⟨fun h => absurd h (by decide), fun e => ?_⟩
        injection e with e _; subst e; exact absurd h' (UInt8.lt_irrefl _)
      · rw [if_neg h', cmp_eq0 xs ys, u8_tri h h']; simp
/-! orders -/
structure IsCmp {α : Type} (c : α → α → Int) : Prop where
  range : ∀ a b, c a b = -1 ∨ c a b = 0 ∨ c a b = 1
  neg : ∀ a b, c b a = - c a b
  trans : ∀ a b d, c a b ≤ 0 → c b d ≤ 0 → c a d ≤ 0 ∧ (c a b < 0 ∨ c b d < 0 → c a d < 0)
theorem IsCmp.by {α β : Type} {c : β → β → Int} (h : IsCmp c) (f : α → β) : IsCmp (fun a b => c (f a) (f b)) := ⟨fun _ _ => h.range _ _, fun _ _ => h.neg _ _, fun _ _ _ => h.trans _ _ _⟩
def isB (l : List Int) : Prop := ∀ y ∈ l, 0 ≤ y ∧ y ≤ 255
theorem okA_isB {l : List Int} {n : Nat} (h : okA .u8 n l) : isB l := fun y hy => by
  have := h.2 y hy
  have e1 : IntKind.u8.min = 0 := rfl
  have e2 : IntKind.u8.max = 255 := rfl
  unfold okI at this
  omega
theorem rd_at (l : List Int) (i : Nat) (hi : i < l.length) : rd l (i : Int) = l[i] := by simp [rd, List.getD, hi]
theorem ar_at (l : List Int) (i : Nat) (hi : i < l.length) : ar l i = l[i] := by simp [ar, List.getD, hi]
theorem u8_lt {x y : Int} (hx : 0 ≤ x ∧ x ≤ 255) (hy : 0 ≤ y ∧ y ≤ 255) : (UInt8.ofNat x.toNat < UInt8.ofNat y.toNat) ↔ x < y := by
  rw [UInt8.lt_iff_toNat_lt, UInt8.toNat_ofNat', UInt8.toNat_ofNat']
  omega
theorem b2s_cons (x : Int) (l : List Int) : b2s (x :: l) = UInt8.ofNat x.toNat :: b2s l := rfl
def refTail (a b : List Int) (s6 : Int ⊕ Unit) : Option Int := match s6 with | .inl r => some r | .inr _ => (if (decide ((a.length : Int) < (b.length : Int))) = true then some (((-1 : Int) : Int)) else (if (decide ((a.length : Int) > (b.length : Int))) = true then some (((1 : Int) : Int)) else some (((0 : Int) : Int))))
theorem reforder_cond (a b : List Int) (i : Nat) : (if (decide ((i : Int) < (a.length : Int))) = true then (decide ((i : Int) < (b.length : Int))) else false) = decide (i < a.length ∧ i < b.length) := by
  by_cases h1 : i < a.length <;> by_cases h2 : i < b.length <;> simp [h1, h2]
theorem reforder_go (a b : List Int) (ha : isB a) (hb : isB b) (hla : a.length ≤ 140737488351232) : ∀ (m k i : Nat), min a.length b.length ≤ m + i → m < k → i ≤ a.length → i ≤ b.length →
    (vineryref01_Order.l0 a b k (i : Int)).bind (refTail a b) = some (Go.Lib.compareBytes (b2s (a.drop i)) (b2s (b.drop i))) := by
  intro m
  induction m with
  | zero =>
    intro k i hm hk hia hib
    obtain ⟨k, rfl⟩ : ∃ k', k = k' + 1 := ⟨k - 1, by omega⟩
    unfold vineryref01_Order.l0
    rw [reforder_cond]
    have hc : ¬ (i < a.length ∧ i < b.length) := by omega
    simp only [hc, decide_false, Bool.false_eq_true, if_false, Option.bind_some, refTail]
    by_cases h1 : a.length < b.length
    · have e1 : a.drop i = [] := List.drop_of_length_le (by omega)
      have e2 : b.drop i = b[i]'(by omega) :: b.drop (i + 1) := List.drop_eq_getElem_cons (by omega)
      rw [if_pos (by simpa using h1), e1, e2]
      rfl
    · rw [if_neg (by simpa using h1)]
      have e2 : b.drop i = [] := List.drop_of_length_le (by omega)
      by_cases h2 : b.length < a.length
      · have e1 : a.drop i = a[i]'(by omega) :: a.drop (i + 1) := List.drop_eq_getElem_cons (by omega)
        rw [if_pos (by simpa using h2), e1, e2]
        rfl
      · have e1 : a.drop i = [] := List.drop_of_length_le (by omega)
        rw [if_neg (by simpa using h2), e1, e2]
        rfl
  | succ m ih =>
    intro k i hm hk hia hib
    by_cases hlt : i < a.length ∧ i < b.length
    · obtain ⟨k, rfl⟩ : ∃ k', k = k' + 1 := ⟨k - 1, by omega⟩
      have e1 : a.drop i = a[i]'(by omega) :: a.drop (i + 1) := List.drop_eq_getElem_cons (by omega)
      have e2 : b.drop i = b[i]'(by omega) :: b.drop (i + 1) := List.drop_eq_getElem_cons (by omega)
      have ba := ha a[i] (by simp)
      have bb := hb b[i] (by simp)
      rw [e1, e2, b2s_cons, b2s_cons, cb_cons]
      simp only [u8_lt ba bb, u8_lt bb ba]
      unfold vineryref01_Order.l0
      have ei : IntKind.i64.wrap ((i : Int) + 1) = ((i + 1 : Nat) : Int) := by rw [IntKind.wrap_i64]; omega
      have ra : (0 : Int) ≤ (i : Int) ∧ (i : Int) < (a.length : Int) := by omega
      have rb : (0 : Int) ≤ (i : Int) ∧ (i : Int) < (b.length : Int) := by omega
      rw [reforder_cond]
      simp only [hlt, and_self, decide_true, if_true, ra, rb, rd_at a i hlt.1, rd_at b i hlt.2, decide_eq_true_eq, gt_iff_lt, ei]
      by_cases h1 : a[i] < b[i]
      · rw [if_pos h1, if_pos h1]; rfl
      · rw [if_neg h1, if_neg h1]
        by_cases h2 : b[i] < a[i]
        · rw [if_pos h2, if_pos h2]; rfl
        · rw [if_neg h2, if_neg h2, ih k (i + 1) (by omega) (by omega) (by omega) (by omega)]
    · exact ih k i (by omega) (by omega) hia hib
theorem reforder_ok (k : Nat) (a b : List Int) (ha : isB a) (hb : isB b) (hla : a.length ≤ 140737488351232) (hk : a.length < k) : vineryref01_Order.f k a b = some (Go.Lib.compareBytes (b2s a) (b2s b)) := by
  unfold vineryref01_Order.f
  exact reforder_go a b ha hb hla a.length k 0 (by omega) hk (by omega) (by omega)
theorem eqAd_iff {x y : S_api_Addr} (hx : okAb x = true) (hy : okAb y = true) : eqAd x y = true ↔ x = y := by
  simp only [okAb, Bool.and_eq_true, beq_iff_eq] at hx hy
  constructor
  · intro h
    simp only [eqAd, Bool.and_eq_true, beq_iff_eq, Bool.and_true] at h
    obtain ⟨h1, h2⟩ := h
    rw [eqA_iff] at h2
    have e : x.B = y.B := by
      apply List.ext_getElem (by rw [hx.1, hy.1])
      intro i q1 q2
      have := h2 i (by omega)
      rwa [ar_at _ _ q1, ar_at _ _ q2] at this
    cases x; cases y
    simp at h1 e
    rw [h1, e]
  · rintro rfl
    have : eqA 16 x.B x.B = true := by rw [eqA_iff]; intro i _; rfl
    simp [eqAd, this]
theorem okA_okAb {x : S_api_Addr} (h : okS_api_Addr x) : okAb x = true := by
  have h2 : okA .u8 16 x.B := h.2
  simp only [okAb, Bool.and_eq_true, beq_iff_eq, List.all_eq_true, decide_eq_true_eq]
  refine ⟨h2.1, fun y hy => ?_⟩
  have := okA_isB h2 y hy
  omega
theorem okAb_isB {x : S_api_Addr} (h : okAb x = true) : isB (arL 16 x.B) := by
  simp only [okAb, Bool.and_eq_true, beq_iff_eq, List.all_eq_true, decide_eq_true_eq] at h
  intro y hy
  simp only [arL, List.mem_map, List.mem_range] at hy
  obtain ⟨i, hi, rfl⟩ := hy
  rw [ar_at _ _ (by omega)]
  have := h.2 _ (List.getElem_mem (show i < x.B.length by omega))
  omega
def ltA (x y : S_api_Addr) : Prop := cmpA x y < 0
theorem ltA_irr (x : S_api_Addr) : ¬ ltA x x := by
  unfold ltA; rw [cmpA_lt]
  rintro (h | ⟨_, h⟩)
  · omega
  · exact List.lt_irrefl _ h
theorem ltA_tr (x y z : S_api_Addr) (h1 : ltA x y) (h2 : ltA y z) : ltA x z := by
  unfold ltA at *; rw [cmpA_lt] at *
  rcases h1 with h1 | ⟨e1, h1⟩ <;> rcases h2 with h2 | ⟨e2, h2⟩
  · exact .inl (by omega)
  · exact .inl (by omega)
  · exact .inl (by omega)
  · exact .inr ⟨e1.trans e2, List.lt_trans h1 h2⟩
theorem ltA_tot {x y : S_api_Addr} (hx : okAb x = true) (hy : okAb y = true) (h1 : ¬ ltA x y) (h2 : ¬ ltA y x) : x = y := by
  unfold ltA at h1 h2
  rw [cmpA_lt] at h1 h2
  simp only [not_or, not_and, List.not_lt] at h1 h2
  have es : x.Size = y.Size := by omega
  have eb := byA_inj hx hy (List.le_antisymm (h2.2 es.symm) (h1.2 es))
  cases x; cases y
  simp at es eb
  rw [es, eb]
theorem cmpA_0 {x y : S_api_Addr} (hx : okAb x = true) (hy : okAb y = true) : cmpA x y = 0 ↔ x = y := by
  constructor
  · intro h
    rcases Int.lt_trichotomy x.Size y.Size with q | q | q
    · simp [cmpA, sgnI, q] at h
    · have h' : Go.Lib.compareBytes (b2s (arL 16 x.B)) (b2s (arL 16 y.B)) = 0 := by simpa [cmpA, sgnI, q] using h
      have eb := byA_inj hx hy ((cmp_eq0 _ _).1 h')
      cases x; cases y
      simp at q eb
      rw [q, eb]
    · have q2 : ¬ x.Size < y.Size := by omega
      simp [cmpA, sgnI, q, q2] at h
  · rintro rfl
    unfold cmpA sgnI
    simp
    exact (cmp_eq0 _ _).2 rfl
def allA (l : List S_api_Addr) : Prop := ∀ x ∈ l, okAb x = true
theorem ddA_spec (zs : List S_api_Addr) (hv : allA zs) (hs : zs.Pairwise (fun x y => ltA x y ∨ x = y)) : (ddA zs zs.length).Pairwise ltA ∧ ∀ y, y ∈ ddA zs zs.length ↔ y ∈ zs := by
  have gD : ∀ i (h : i < zs.length), zs.getD i zA = zs[i] := fun i h => by rw [List.getD_eq_getElem?_getD, List.getElem?_eq_getElem h]; rfl
  have key := dd_gen (lt := ltA) ltA_irr ltA_tr zs hs (fun m => ddA zs m) (by simp [ddA]) ?_ ?_ zs.length (Nat.le_refl _)
  · rw [List.take_length] at key; exact key
  · intro m h hm
    have hk : keepA zs m = true := by
      unfold keepA
      by_cases h0 : m = 0
      · simp [h0]
      · have h1 : m - 1 < zs.length := by omega
        rw [gD m h, gD (m - 1) h1]
        have hne : zs[m] ≠ zs[m - 1] := by
          rcases hm with hm | hm
          · exact absurd hm h0
          · rw [List.getElem?_eq_getElem h, List.getElem?_eq_getElem h1] at hm
            exact fun e => hm (by rw [e])
        have : eqAd zs[m] zs[m - 1] = false := by
          cases hq : eqAd zs[m] zs[m - 1]
          · rfl
          · exact absurd ((eqAd_iff (hv _ (List.getElem_mem _)) (hv _ (List.getElem_mem _))).1 hq) hne
        rw [this]; simp
    show ddA zs (m + 1) = _
    rw [ddA_succ, if_pos hk, gD m h]
  · intro m h h0 hm
    have h1 : m - 1 < zs.length := by omega
    rw [List.getElem?_eq_getElem h, List.getElem?_eq_getElem h1] at hm
    have hk : keepA zs m = false := by
      unfold keepA
      rw [gD m h, gD (m - 1) h1, (eqAd_iff (hv _ (List.getElem_mem _)) (hv _ (List.getElem_mem _))).2 (Option.some.inj hm)]
      simp [h0]
    show ddA zs (m + 1) = _
    rw [ddA_succ, hk]; simp
theorem leA_iff {x y : S_api_Addr} (hx : okAb x = true) (hy : okAb y = true) : leA x y = true ↔ ltA x y ∨ x = y := by
  simp only [leA, Bool.not_eq_true', decide_eq_false_iff_not]
  constructor
  · intro h
    by_cases hl : ltA x y
    · exact .inl hl
    · exact .inr (ltA_tot hx hy hl h)
  · rintro (h | rfl)
    · exact fun h2 => ltA_irr _ (ltA_tr _ _ _ h h2)
    · exact ltA_irr _
theorem sortA_rise (l : List S_api_Addr) (hv : allA l) : (l.mergeSort leA).Pairwise (fun x y => ltA x y ∨ x = y) := by
  have h := List.pairwise_mergeSort (le := leA) (fun a b c h1 h2 => by
    simp only [leA, Bool.not_eq_true', decide_eq_false_iff_not] at *
    have e1 := sk_swo.ntrans
    rw [cmpA_lt] at *
    simp only [not_or, not_and, List.not_lt] at *
    obtain ⟨a1, b1⟩ := h1
    obtain ⟨a2, b2⟩ := h2
    exact ⟨by omega, fun e => List.le_trans (b1 (by omega)) (b2 (by omega))⟩) (fun a b => by
    rw [Bool.or_eq_true]
    simp only [leA, Bool.not_eq_true', decide_eq_false_iff_not]
    by_cases h : ltA b a
    · exact .inr fun h2 => ltA_irr _ (ltA_tr _ _ _ h h2)
    · exact .inl h) l
  have hm : ∀ x ∈ l.mergeSort leA, okAb x = true := fun x hx => hv x ((List.mergeSort_perm l leA).mem_iff.1 hx)
  exact h.imp_of_mem fun {a b} ha hb hab => (leA_iff (hm a ha) (hm b hb)).1 hab
def grB (j : S_api_Join) (n : List UInt8) : Bool := j.Vrf == n && j.Source.Size == 0
def gG (l : List S_api_Join) (n : List UInt8) : List S_api_Addr := (l.filter (grB · n)).map (·.Group)
theorem grB_f (j : S_api_Join) (n : List UInt8) : joins_Groups_1.f j n = some (grB j n) := by
  unfold joins_Groups_1.f grB
  simp only [bstrL]
  by_cases h1 : j.Vrf = n <;> simp [h1]
theorem gathG_l0 (l : List S_api_Join) (f : List UInt8) (hl : l.length ≤ 1000) : ∀ (n kk i : Nat) (x8 : List S_api_Addr), i + n = l.length → n < kk → x8.length ≤ i → api_Addr_joins_Groups_1_joins_Groups_2_addr_Compare.l0 l f kk x8 (i : Int) = some (x8 ++ gG (l.drop i) f)
  | 0, kk + 1, i, x8, hi, _, _ => by
    rw [api_Addr_joins_Groups_1_joins_Groups_2_addr_Compare.l0, if_neg (by simp; omega), List.drop_eq_nil_of_le (by omega)]
    simp [gG]
  | n + 1, kk + 1, i, x8, hi, hk, hx => by
    have hil : i < l.length := by omega
    have ed : l.drop i = l[i] :: l.drop (i + 1) := List.drop_eq_getElem_cons hil
    rw [api_Addr_joins_Groups_1_joins_Groups_2_addr_Compare.l0, if_pos (by simp; omega), if_pos (by omega), rdA l i hil, grB_f, Option.bind_some, wrapS i (by omega)]
    unfold gG
    rw [ed, List.filter_cons]
    by_cases h : grB l[i] f = true
    · rw [if_pos h, if_pos h]
      show (some l[i].Group).bind _ = _
      rw [Option.bind_some, if_pos (by simp; omega), gathG_l0 l f hl n kk (i + 1) _ (by omega) (by omega) (by simp; omega)]
      simp [gG]
    · rw [if_neg h, if_neg h, gathG_l0 l f hl n kk (i + 1) _ (by omega) (by omega) (by omega)]
      rfl
def grc (l : List S_api_Join) (n : List UInt8) : List S_api_Addr := ddA ((gG l n).mergeSort leA) (gG l n).length
def allJ (l : List S_api_Join) : Prop := ∀ j ∈ l, okAb j.Group = true
theorem gG_v {l : List S_api_Join} (h : allJ l) (n : List UInt8) : allA (gG l n) := by
  intro x hx
  simp only [gG, List.mem_map, List.mem_filter] at hx
  obtain ⟨j, ⟨hj, _⟩, rfl⟩ := hx
  exact h j hj
theorem groups_f (k : Nat) (l : List S_api_Join) (n : List UInt8) (hv : allJ l) (hl : l.length ≤ 1000) (hk : l.length < k) : joins_Groups.f k l n = some (grc l n) := by
  have h := gathG_l0 l n hl l.length k 0 [] (by omega) (by omega) (Nat.le_refl _)
  have hlen : (gG l n).length ≤ l.length := by unfold gG; rw [List.length_map]; exact List.length_filter_le _ _
  unfold joins_Groups.f api_Addr_joins_Groups_1_joins_Groups_2_addr_Compare.f
  rw [show (0 : Int) = ((0 : Nat) : Int) from rfl, h, List.nil_append, List.drop_zero, Option.bind_some]
  unfold slices_SortA.f
  rw [if_pos ⟨by omega, List.all_eq_true.2 (gG_v hv n)⟩, Option.bind_some]
  unfold slices_CompA.f
  rw [if_pos (by rw [List.length_mergeSort]; omega), List.length_mergeSort]
  rfl
theorem grc_spec (l : List S_api_Join) (n : List UInt8) (hv : allJ l) : (grc l n).Pairwise ltA ∧ ∀ y, y ∈ grc l n ↔ y ∈ gG l n := by
  have hm : allA ((gG l n).mergeSort leA) := fun x hx => gG_v hv n x ((List.mergeSort_perm _ _).mem_iff.1 hx)
  have h := ddA_spec _ hm (sortA_rise (gG l n) (gG_v hv n))
  rw [List.length_mergeSort] at h
  exact ⟨h.1, fun y => (h.2 y).trans (List.mergeSort_perm _ _).mem_iff⟩
theorem refcmp_f (k : Nat) (hk : 16 < k) (x y : S_api_Addr) (hx : okAb x = true) (hy : okAb y = true) : vineryref02_Compare.f k x y = some (cmpA x y) := by
  have h := reforder_ok k (arL 16 x.B) (arL 16 y.B) (okAb_isB hx) (okAb_isB hy) (by simp [arL]) (by simp [arL]; omega)
  unfold vineryref02_Compare.f cmpA sgnI
  simp only [decide_eq_true_eq]
  by_cases h1 : x.Size < y.Size
  · rw [if_pos h1, if_pos h1]; simp
  · rw [if_neg h1, if_neg h1]
    by_cases h2 : x.Size > y.Size
    · rw [if_pos h2, if_pos h2]; simp
    · rw [if_neg h2, if_neg h2, h]; simp
theorem rgr_l1 (k : Nat) (hk9 : 16 < k) (l : List S_api_Join) (hv : allJ l) (out : List S_api_Addr) (hvo : allA out) (j : Nat) (hj : j < l.length) (ho : out.length ≤ 1000) : ∀ (n kk i : Nat), i + n = out.length → n < kk → (∀ q (h : q < out.length), q < i → ltA out[q] l[j].Group) →
    ∃ p : Nat, vineryref20_Groups.l1 k l out (j : Int) kk (i : Int) = some (p : Int) ∧ p ≤ out.length ∧ (∀ q (h : q < out.length), q < p → ltA out[q] l[j].Group) ∧ (∀ h : p < out.length, ¬ ltA out[p] l[j].Group)
  | 0, kk + 1, i, hi, _, h => by
    refine ⟨i, ?_, by omega, h, fun hh => by omega⟩
    rw [vineryref20_Groups.l1, if_neg (by simp; omega), Option.bind_some, if_neg (by simp)]
  | n + 1, kk + 1, i, hi, hk, h => by
    have hil : i < out.length := by omega
    rw [vineryref20_Groups.l1, if_pos (by simp; omega), if_pos (by omega), rdA out i hil, rdA l j hj, refcmp_f k hk9 _ _ (hvo _ (List.getElem_mem _)) (hv _ (List.getElem_mem _)), Option.bind_some, Option.bind_some]
    by_cases hc : ltA out[i] l[j].Group
    · have hc' : cmpA out[i] l[j].Group < 0 := hc
      rw [if_pos (decide_eq_true hc'), wrapS i (by omega)]
      refine rgr_l1 k hk9 l hv out hvo j hj ho n kk (i + 1) (by omega) (by omega) fun q hq hqi => ?_
      by_cases e : q = i
      · subst e; exact hc
      · exact h q hq (by omega)
    · have hc' : ¬ cmpA out[i] l[j].Group < 0 := hc
      rw [if_neg (by rw [decide_eq_true_eq]; exact hc')]
      exact ⟨i, rfl, by omega, h, fun _ => hc⟩
theorem gG_snoc (l : List S_api_Join) (f : List UInt8) (i : Nat) (hi : i < l.length) (y : S_api_Addr) : y ∈ gG (l.take (i + 1)) f ↔ y ∈ gG (l.take i) f ∨ (grB l[i] f = true ∧ y = l[i].Group) := by
  have e : l.take (i + 1) = l.take i ++ [l[i]] := by rw [List.take_add_one, List.getElem?_eq_getElem hi]; rfl
  unfold gG
  rw [e, List.filter_append, List.map_append, List.mem_append]
  by_cases h : grB l[i] f = true
  · simp [h]
  · simp [h]
theorem rgr_l0 (k : Nat) (l : List S_api_Join) (hv : allJ l) (f : List UInt8) (hl : l.length ≤ 900) (hk9 : 1000 < k) : ∀ (n kk i : Nat) (out : List S_api_Addr), i + n = l.length → n < kk → out.length ≤ i → out.Pairwise ltA → (∀ y, y ∈ out ↔ y ∈ gG (l.take i) f) →
    ∃ r, vineryref20_Groups.l0 k l f kk out (i : Int) = some r ∧ r.Pairwise ltA ∧ ∀ y, y ∈ r ↔ y ∈ gG l f
  | 0, kk + 1, i, out, hi, _, _, hs, hm => by
    refine ⟨out, ?_, hs, fun y => ?_⟩
    · rw [vineryref20_Groups.l0, if_neg (by simp; omega)]
    · rw [hm, List.take_of_length_le (by omega)]
  | n + 1, kk + 1, i, out, hi, hkk, ho, hs, hm => by
    have hil : i < l.length := by omega
    have hvo : allA out := fun x hx => by
      have h := (hm x).1 hx
      exact gG_v (l := l.take i) (fun j hj => hv j (List.mem_of_mem_take hj)) f x h
    rw [vineryref20_Groups.l0, if_pos (by simp; omega), if_pos (by omega)]
    have e0 : (if (!((bstr ((rd l (i : Int)).Vrf)).toList == (bstr f).toList)) = true then some (true : Bool) else (if 0 ≤ (i : Int) ∧ (i : Int) < (l.length : Int) then some ((((rd l (i : Int)).Source).Size) != (0 : Int) : Bool) else none)) = some (!grB l[i] f) := by
      rw [rdA l i hil, if_pos (show 0 ≤ (i : Int) ∧ (i : Int) < (l.length : Int) by omega)]
      unfold grB
      simp only [bstrL]
      by_cases h1 : l[i].Vrf = f <;> simp [h1, bne]
    rw [e0, Option.bind_some, wrapS i (by omega)]
    by_cases ha : grB l[i] f = true
    rotate_left
    · rw [if_pos (by simp [ha])]
      exact rgr_l0 k l hv f hl hk9 n kk (i + 1) out (by omega) (by omega) (by omega) hs fun y => by rw [hm, gG_snoc l f i hil]; simp [ha]
    rw [if_neg (by simp [ha]), if_pos (by omega)]
    obtain ⟨p, e1, p1, p2, p3⟩ := rgr_l1 k (by omega) l hv out hvo i hil (by omega) out.length k 0 (by omega) (by omega) (fun q _ h => by omega)
    rw [show (0 : Int) = ((0 : Nat) : Int) from rfl, e1, Option.bind_some]
    have hvl : okAb l[i].Group = true := hv _ (List.getElem_mem _)
    have skip : ∀ h : p < out.length, out[p] = l[i].Group → ∃ r, vineryref20_Groups.l0 k l f kk out ((i + 1 : Nat) : Int) = some r ∧ r.Pairwise ltA ∧ ∀ y, y ∈ r ↔ y ∈ gG l f := fun h e => by
      refine rgr_l0 k l hv f hl hk9 n kk (i + 1) out (by omega) (by omega) (by omega) hs fun y => ?_
      rw [gG_snoc l f i hil, ← hm]
      refine ⟨.inl, fun hy => hy.elim id fun hy => ?_⟩
      rw [hy.2, ← e]; exact List.getElem_mem _
    have put : (p = out.length ∨ ∃ h : p < out.length, out[p] ≠ l[i].Group) → ∃ r, vineryref20_Groups.l0 k l f kk (out.take p ++ ([l[i].Group] ++ out.drop p)) ((i + 1 : Nat) : Int) = some r ∧ r.Pairwise ltA ∧ ∀ y, y ∈ r ↔ y ∈ gG l f := fun hp => by
      have hr := ins_rise (lt := ltA) ltA_irr ltA_tr hs l[i].Group p p1 p2 (fun h => by
        rcases hp with hp | ⟨_, hp⟩
        · omega
        · by_cases hx : ltA l[i].Group out[p]
          · exact hx
          · exact absurd (ltA_tot (hvo _ (List.getElem_mem _)) hvl (p3 h) hx) hp)
      refine rgr_l0 k l hv f hl hk9 n kk (i + 1) _ (by omega) (by omega) (by simp; omega) hr.1 fun y => ?_
      rw [hr.2, gG_snoc l f i hil, hm]
      simp only [ha, true_and]
      exact Or.comm
    simp only [rdA l i hil]
    have e4 : ((([] : List S_api_Addr) ++ ((out.take (Int.toNat (p : Int))).drop (Int.toNat ((0 : Nat) : Int)))) ++ ([l[i].Group] : List S_api_Addr)) ++ ((out.take (Int.toNat (out.length : Int))).drop (Int.toNat (p : Int))) = out.take p ++ ([l[i].Group] ++ out.drop p) := by simp
    have l1 : ((([] : List S_api_Addr).length + ((out.take (Int.toNat (p : Int))).drop (Int.toNat ((0 : Nat) : Int))).length) * 24 ≤ 140737488355328) := by simp; omega
    have l2 : (((([] : List S_api_Addr) ++ ((out.take (Int.toNat (p : Int))).drop (Int.toNat ((0 : Nat) : Int)))).length + ([l[i].Group] : List S_api_Addr).length) * 24 ≤ 140737488355328) := by simp; omega
    have l3 : (((([] : List S_api_Addr) ++ ((out.take (Int.toNat (p : Int))).drop (Int.toNat ((0 : Nat) : Int)))) ++ ([l[i].Group] : List S_api_Addr)).length + ((out.take (Int.toNat (out.length : Int))).drop (Int.toNat (p : Int))).length) * 24 ≤ 140737488355328 := by simp; omega
    by_cases hpl : p < out.length
    · rw [if_pos (by simp; omega), if_pos (by omega), rdA out p hpl, refcmp_f k (by omega) _ _ (hvo _ (List.getElem_mem _)) hvl, Option.bind_some, Option.bind_some]
      by_cases he : out[p] = l[i].Group
      · rw [if_pos (by rw [beq_iff_eq]; exact (cmpA_0 (hvo _ (List.getElem_mem _)) hvl).2 he)]
        exact skip hpl he
      · rw [if_neg (by rw [beq_iff_eq]; exact fun h => he ((cmpA_0 (hvo _ (List.getElem_mem _)) hvl).1 h)), if_pos (by omega), if_pos l1, if_pos l2, if_pos (by omega), if_pos l3, e4]
        exact put (.inr ⟨hpl, he⟩)
    · rw [if_neg (by simp; omega), Option.bind_some, if_neg (by decide), if_pos (by omega), if_pos l1, if_pos l2, if_pos (by omega), if_pos l3, e4]
      exact put (.inl (by omega))
theorem refGroups_f (k : Nat) (l : List S_api_Join) (hv : allJ l) (f : List UInt8) (hl : l.length ≤ 900) (hk : 1000 < k) : vineryref20_Groups.f k l f = some (grc l f) := by
  obtain ⟨r, h1, h2, h3⟩ := rgr_l0 k l hv f hl hk l.length k 0 [] (by omega) (by omega) (Nat.le_refl _) List.Pairwise.nil (fun y => by simp [gG])
  obtain ⟨s1, s2⟩ := grc_spec l f hv
  have e : r = grc l f := rows_unique (lt := ltA) ltA_irr ltA_tr h2 s1 (fun y => (h3 y).trans (s2 y).symm)
  unfold vineryref20_Groups.f
  rw [show (0 : Int) = ((0 : Nat) : Int) from rfl, h1, e]; rfl
theorem sameG_l0 (a : List S_api_Addr) (ha : a.length ≤ 1000) : ∀ (n kk i : Nat), i + n = a.length → n < kk → vineryref20_SameAddrs.l0 a a kk (i : Int) = some (.inr ())
  | 0, kk + 1, i, hi, _ => by rw [vineryref20_SameAddrs.l0, if_neg (by simp; omega)]
  | n + 1, kk + 1, i, hi, hk => by
    have e : ∀ x : List Int, eqA 16 x x = true := fun x => by rw [eqA_iff]; intro i _; rfl
    rw [vineryref20_SameAddrs.l0, if_pos (by simp; omega), if_pos (by omega), if_pos (by omega), if_neg (by simp [e]), wrapS i (by omega)]
    exact sameG_l0 a ha n kk (i + 1) (by omega) (by omega)
theorem sameG_f (k : Nat) (a : List S_api_Addr) (ha : a.length ≤ 1000) (hk : a.length < k) : vineryref20_SameAddrs.f k a a = some true := by
  unfold vineryref20_SameAddrs.f
  rw [if_neg (by simp), show (0 : Int) = ((0 : Nat) : Int) from rfl, sameG_l0 a ha a.length k 0 (by omega) hk]; rfl
theorem sameJ_l0 (a : List S_api_Join) (ha : a.length ≤ 1000) : ∀ (n kk i : Nat), i + n = a.length → n < kk → vineryref20_Same.l0 a a kk (i : Int) = some (.inr ())
  | 0, kk + 1, i, hi, _ => by rw [vineryref20_Same.l0, if_neg (by simp; omega)]
  | n + 1, kk + 1, i, hi, hk => by
    have e : ∀ x : List Int, eqA 16 x x = true := fun x => by rw [eqA_iff]; intro i _; rfl
    rw [vineryref20_Same.l0, if_pos (by simp; omega), if_pos (by omega), if_pos (by omega), if_neg (by simp [e]), wrapS i (by omega)]
    exact sameJ_l0 a ha n kk (i + 1) (by omega) (by omega)
theorem sameJ_f (k : Nat) (a : List S_api_Join) (ha : a.length ≤ 1000) (hk : a.length < k) : vineryref20_Same.f k a a = some true := by
  unfold vineryref20_Same.f
  rw [if_neg (by simp), show (0 : Int) = ((0 : Nat) : Int) from rfl, sameJ_l0 a ha a.length k 0 (by omega) hk]; rfl
def smG : S_api_Addr := ⟨4, [224, 0, 0, 1, 0, 0, 0, 0, 0, 0, 0, 0, 0, 0, 0, 0]⟩
def smS (b : Int) : S_api_Addr := ⟨4, [10, 1, 0, b, 0, 0, 0, 0, 0, 0, 0, 0, 0, 0, 0, 0]⟩
def smX : S_api_Join := ⟨[97], [120], smS 1, smG⟩
def smY : S_api_Join := ⟨[97], [121], ⟨0, List.replicate 16 0⟩, smG⟩
def smZ : S_api_Join := ⟨[97], [88], ⟨0, List.replicate 16 0⟩, smG⟩
theorem ifc_is {l : List S_api_Join} {f : S_api_Flow} {r : List (List UInt8)} (h : r.Pairwise (· < ·)) (hm : ∀ y, y ∈ r ↔ y ∈ gS l f) : ifc l f = r :=
  rows_unique (lt := fun x y : List UInt8 => x < y) (fun x => List.lt_irrefl x) (fun x y z => List.lt_trans) (ifc_spec l f).1 h (fun y => ((ifc_spec l f).2 y).trans (hm y).symm)
theorem grc_is {l : List S_api_Join} {n : List UInt8} (hv : allJ l) {r : List S_api_Addr} (h : r.Pairwise ltA) (hm : ∀ y, y ∈ r ↔ y ∈ gG l n) : grc l n = r :=
  rows_unique (lt := ltA) ltA_irr ltA_tr (grc_spec l n hv).1 h (fun y => ((grc_spec l n hv).2 y).trans (hm y).symm)
theorem sm_a1 (k : Nat) : Jn_Add.f (k + 60) ⟨[]⟩ smX = some (0, ⟨[smX]⟩) := by kernel_rfl
theorem sm_a2 (k : Nat) : Jn_Add.f (k + 60) ⟨[smX]⟩ smY = some (0, ⟨[smY, smX]⟩) := by kernel_rfl
theorem sm_a3 (k : Nat) : Jn_Add.f (k + 60) ⟨[smY, smX]⟩ smZ = some (1, ⟨[smY, smX]⟩) := by kernel_rfl
theorem sm_i1 : ifc [smY, smX] ⟨[97], smS 1, smG⟩ = [[120], [121]] := ifc_is (by decide) (fun y => by
    have : gS [smY, smX] ⟨[97], smS 1, smG⟩ = [[121], [120]] := by decide
    rw [this]; simp; exact Or.comm)
theorem sm_i2 : ifc [smY, smX] ⟨[97], smS 2, smG⟩ = [[121]] := ifc_is (by decide) (fun y => by
    have : gS [smY, smX] ⟨[97], smS 2, smG⟩ = [[121]] := by decide
    rw [this])
theorem sm_v : allJ [smY, smX] := by
    intro j hj
    simp at hj
    rcases hj with rfl | rfl <;> decide
theorem sm_g1 : grc [smY, smX] [97] = [smG] := grc_is sm_v (List.pairwise_singleton _ _) (fun y => by
    have : gG [smY, smX] [97] = [smG] := by decide
    rw [this])
theorem small20 (k : Nat) : vinerylaw20_small.f (k + 60) = some true := by
  have f1 := ifaces_f (k + 60) [smY, smX] ⟨[97], smS 1, smG⟩ (by decide) (by simp)
  have f2 := ifaces_f (k + 60) [smY, smX] ⟨[97], smS 2, smG⟩ (by decide) (by simp)
  have f3 := groups_f (k + 60) [smY, smX] [97] sm_v (by decide) (by simp)
  rw [sm_i1] at f1; rw [sm_i2] at f2; rw [sm_g1] at f3
  have n0 : Jn_New.f = some ⟨[]⟩ := rfl
  have o1 : vinerylaw20_Of.f [120] 1 1 = some smX := rfl
  have o2 : vinerylaw20_Of.f [121] 0 1 = some smY := rfl
  have o3 : vinerylaw20_Of.f [88] 0 1 = some smZ := rfl
  have v1 : vinerylaw07_V4.f 10 1 0 1 = some (smS 1) := rfl
  have v2 : vinerylaw07_V4.f 10 1 0 2 = some (smS 2) := rfl
  have v3 : vinerylaw07_V4.f 224 0 0 1 = some smG := rfl
  have al : Jn_All.f ⟨[smY, smX]⟩ = some [smY, smX] := rfl
  unfold vinerylaw20_small.f
  simp only [n0, o1, o2, o3, v1, v2, v3, al, Option.bind_some, sm_a1, sm_a2, sm_a3, f1, f2, f3]
  simp [bstrL, rd]
theorem JoinsTells.law (l : List S_api_Join) (hl : okL 80 okS_api_Join l) (f : S_api_Flow) (hf : okS_api_Flow f) : ∃ k, vinerylaw20_JoinsTells.f k l f = some true := by
  refine ⟨1040 + 60, ?_⟩
  have hv : allJ l := fun j hj => okA_okAb (hl.2 j hj).2.2.2
  unfold vinerylaw20_JoinsTells.f
  rw [small20, Option.bind_some]
  by_cases hn : (decide ((l.length : Int) > (60 : Int))) = true
  · rw [if_pos hn]
  rw [if_neg hn]
  have hn : l.length ≤ 60 := by
    have := of_decide_eq_false (Bool.not_eq_true _ ▸ hn)
    omega
  have s1 := (ifc_spec l f)
  have hlen : ∀ (xs : List (List UInt8)), (Go.Lib.compact xs).length ≤ xs.length := comp_len
  have b1 : (ifc l f).length ≤ 1000 := by
    have h1 := comp_len ((gS l f).mergeSort leS)
    rw [List.length_mergeSort] at h1
    have h2 : (gS l f).length ≤ l.length := by unfold gS; rw [List.length_map]; exact List.length_filter_le _ _
    unfold ifc; omega
  have b2 : (grc l f.Vrf).length ≤ 1000 := by
    have h1 := ddA_len ((gG l f.Vrf).mergeSort leA) (gG l f.Vrf).length
    have h2 : (gG l f.Vrf).length ≤ l.length := by unfold gG; rw [List.length_map]; exact List.length_filter_le _ _
    unfold grc; omega
  rw [if_pos (by simp; omega), List.nil_append, ifaces_f _ l f (by omega) (by omega), Option.bind_some, groups_f _ l f.Vrf hv (by omega) (by omega), Option.bind_some, refIfaces_f _ l f (by omega) (by omega), Option.bind_some, sameT_f _ _ b1 (by omega), Option.bind_some, if_pos rfl, refGroups_f _ l hv f.Vrf (by omega) (by omega), Option.bind_some, sameG_f _ _ b2 (by omega), Option.bind_some, Option.bind_some, if_pos rfl, if_pos rfl, sameJ_f _ l (by omega) (by omega)]
  rfl
end Go.E
