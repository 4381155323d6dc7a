/- The plain law: what the walk computes is true, whatever the input. -/
import Derived.Test.YtildkadbjkfgfaaGreatDoorGenJoinsAsks
import Derived.Test.YtildkadbjkfgfaaGreatDoorEngR
set_option linter.unusedVariables false
set_option linter.unusedSimpArgs false
namespace Go.E
open Go.RowKit Go.Sort
/-! rows in order, each once -/
section
variable {α : Type} {lt : α → α → Prop}
theorem dd_gen (hirr : ∀ x, ¬ lt x x) (htr : ∀ x y z, lt x y → lt y z → lt x z) (xs : List α) (hs : xs.Pairwise (fun x y => lt x y ∨ x = y)) (D : Nat → List α) (h0 : D 0 = [])
    (hy : ∀ m (h : m < xs.length), (m = 0 ∨ xs[m]? ≠ xs[m - 1]?) → D (m + 1) = D m ++ [xs[m]]) (hn : ∀ m (h : m < xs.length), m ≠ 0 → xs[m]? = xs[m - 1]? → D (m + 1) = D m) :
    ∀ m, m ≤ xs.length → (D m).Pairwise lt ∧ ∀ y, y ∈ D m ↔ y ∈ xs.take m
  | 0, _ => ⟨by simp [h0], by simp [h0]⟩
  | m + 1, hm => by
    obtain ⟨ih1, ih2⟩ := dd_gen hirr htr xs hs D h0 hy hn m (by omega)
    have hml : m < xs.length := by omega
    have ht : xs.take (m + 1) = xs.take m ++ [xs[m]] := by rw [List.take_add_one, List.getElem?_eq_getElem hml]; rfl
    by_cases hk : m = 0 ∨ xs[m]? ≠ xs[m - 1]?
    · rw [hy m hml hk, ht]
      refine ⟨?_, fun y => by rw [List.mem_append, List.mem_append, ih2]⟩
      rw [List.pairwise_append]
      refine ⟨ih1, List.pairwise_singleton _ _, fun y hy' z hz => ?_⟩
      rw [List.mem_singleton] at hz
      subst hz
      obtain ⟨j, hj, rfl⟩ := List.getElem_of_mem ((ih2 y).1 hy')
      have hjm : j < m := by rw [List.length_take] at hj; omega
      rw [List.getElem_take]
      have hm1 : m - 1 < xs.length := by omega
      have hne : xs[m - 1] ≠ xs[m] := by
        intro e
        rcases hk with hk | hk
        · omega
        · rw [List.getElem?_eq_getElem hml, List.getElem?_eq_getElem hm1, e] at hk; exact hk rfl
      have l1 : lt xs[m - 1] xs[m] := (List.pairwise_iff_getElem.1 hs (m - 1) m hm1 hml (by omega)).resolve_right hne
      by_cases hj1 : j = m - 1
      · subst hj1; exact l1
      · rcases List.pairwise_iff_getElem.1 hs j (m - 1) (by omega) hm1 (by omega) with h | h
        · exact htr _ _ _ h l1
        · rw [h]; exact l1
    · have hm0 : m ≠ 0 := fun e => hk (.inl e)
      have he : xs[m]? = xs[m - 1]? := Classical.byContradiction fun h => hk (.inr h)
      rw [hn m hml hm0 he, ht]
      refine ⟨ih1, fun y => ?_⟩
      rw [ih2, List.mem_append, List.mem_singleton]
      refine ⟨.inl, fun h => h.elim id fun e => ?_⟩
      have hm1 : m - 1 < xs.length := by omega
      rw [List.getElem?_eq_getElem hml, List.getElem?_eq_getElem hm1] at he
      rw [e, Option.some.inj he]
      exact List.mem_take_iff_getElem.2 ⟨m - 1, by omega, rfl⟩
theorem rows_unique (hirr : ∀ x, ¬ lt x x) (htr : ∀ x y z, lt x y → lt y z → lt x z) {a b : List α} (ha : a.Pairwise lt) (hb : b.Pairwise lt) (h : ∀ y, y ∈ a ↔ y ∈ b) : a = b := by
  have nd : ∀ {c : List α}, c.Pairwise lt → c.Nodup := fun hc => hc.imp fun {x y} hxy e => by subst e; exact hirr _ hxy
  have hp : a.Perm b := (List.perm_ext_iff_of_nodup (nd ha) (nd hb)).2 h
  exact List.Perm.eq_of_pairwise (le := lt) (fun x y _ _ h1 h2 => absurd (htr _ _ _ h1 h2) (hirr _)) ha hb hp
end
theorem rdA {α : Type} [Inhabited α] (l : List α) (i : Nat) (hi : i < l.length) : rd l (i : Int) = l[i] := by simp [rd, List.getD, hi]
theorem bstrL (l : List UInt8) : (bstr l).toList = l := by rw [ByteArray.toList_eq]; simp [bstr]
theorem bless (x y : List UInt8) : Op.bytesLess x y = decide (x < y) := Go.Proofs.bytesLess_eq x y
theorem wrapS (i : Nat) (h : i < 1000000) : IntKind.i64.wrap ((i : Int) + 1) = ((i + 1 : Nat) : Int) := by rw [IntKind.wrap_i64]; omega
def asksB (j : S_api_Join) (f : S_api_Flow) : Bool := j.Vrf == f.Vrf && (eqAd j.Group f.Group && (j.Source.Size == 0 || eqAd j.Source f.Source))
theorem asks_f (j : S_api_Join) (f : S_api_Flow) : joins_Ifaces_1.f j f = some (asksB j f) := by
  unfold joins_Ifaces_1.f joins_asks.f asksB eqAd
  simp only [bstrL]
  by_cases h1 : j.Vrf = f.Vrf <;> by_cases h2 : j.Group.Size = f.Group.Size <;> cases h3 : eqA 16 j.Group.B f.Group.B <;> by_cases h4 : j.Source.Size = 0 <;> simp [h1, h2, h4]
def gS (l : List S_api_Join) (f : S_api_Flow) : List (List UInt8) := (l.filter (asksB · f)).map (·.Iface)
theorem gath_l0 (l : List S_api_Join) (f : S_api_Flow) (hl : l.length ≤ 1000) : ∀ (n kk i : Nat) (x8 : List (List UInt8)), i + n = l.length → n < kk → x8.length ≤ i → joins_gathered_string_joins_Ifaces_1_joins_Ifaces_2_cmp_Compare_string.l0 l f kk x8 (i : Int) = some (x8 ++ gS (l.drop i) f)
  | 0, kk + 1, i, x8, hi, _, _ => by
    rw [joins_gathered_string_joins_Ifaces_1_joins_Ifaces_2_cmp_Compare_string.l0, if_neg (by simp; omega), List.drop_eq_nil_of_le (by omega)]
    simp [gS]
  | n + 1, kk + 1, i, x8, hi, hk, hx => by
    have hil : i < l.length := by omega
    have ed : l.drop i = l[i] :: l.drop (i + 1) := List.drop_eq_getElem_cons hil
    rw [joins_gathered_string_joins_Ifaces_1_joins_Ifaces_2_cmp_Compare_string.l0, if_pos (by simp; omega), if_pos (by omega), rdA l i hil, asks_f, Option.bind_some, wrapS i (by omega)]
    unfold gS
    rw [ed, List.filter_cons]
    by_cases h : asksB l[i] f = true
    · rw [if_pos h, if_pos h]
      show (some l[i].Iface).bind _ = _
      rw [Option.bind_some, if_pos (by simp; omega), gath_l0 l f hl n kk (i + 1) _ (by omega) (by omega) (by simp; omega)]
      simp [gS]
    · rw [if_neg h, if_neg h, gath_l0 l f hl n kk (i + 1) _ (by omega) (by omega) (by omega)]
      rfl
def ifc (l : List S_api_Join) (f : S_api_Flow) : List (List UInt8) := Go.Lib.compact ((gS l f).mergeSort leS)
theorem ifaces_f (k : Nat) (l : List S_api_Join) (f : S_api_Flow) (hl : l.length ≤ 1000) (hk : l.length < k) : joins_Ifaces.f k l f = some (ifc l f) := by
  have h := gath_l0 l f hl l.length k 0 [] (by omega) (by omega) (Nat.le_refl _)
  have hlen : (gS l f).length ≤ l.length := by unfold gS; rw [List.length_map]; exact List.length_filter_le _ _
  unfold joins_Ifaces.f joins_gathered_string_joins_Ifaces_1_joins_Ifaces_2_cmp_Compare_string.f
  rw [show (0 : Int) = ((0 : Nat) : Int) from rfl, h, List.nil_append, List.drop_zero, Option.bind_some]
  unfold slices_SortS.f
  rw [if_pos (by omega), Option.bind_some]
  unfold slices_CompS.f
  rw [if_pos (by rw [List.length_mergeSort]; omega)]
  rfl
theorem comp_spec (zs : List (List UInt8)) (hs : zs.Pairwise (fun x y => x < y ∨ x = y)) : (Go.Lib.compact zs).Pairwise (· < ·) ∧ ∀ y, y ∈ Go.Lib.compact zs ↔ y ∈ zs := by
  have key := dd_gen (lt := fun x y : List UInt8 => x < y) (fun x => List.lt_irrefl x) (fun x y z => List.lt_trans) zs hs (fun m => Go.Lib.compactUpTo zs.toArray m) (by simp [Go.Lib.compactUpTo]) ?_ ?_ zs.length (Nat.le_refl _)
  · rw [List.take_length] at key; exact key
  · intro m h hm
    rw [Go.Lib.compactUpTo_succ]
    have e : zs.toArray[m]! = zs[m] := by simp [h]
    have hk : Go.Lib.keeps zs.toArray m = true := by
      unfold Go.Lib.keeps
      apply decide_eq_true
      rcases hm with hm | hm
      · exact .inl hm
      · by_cases h0 : m = 0
        · exact .inl h0
        · refine .inr fun ee => hm ?_
          have h1 : m - 1 < zs.length := by omega
          rw [List.getElem?_eq_getElem h, List.getElem?_eq_getElem h1]
          have e1 : zs.toArray[m - 1]! = zs[m - 1] := by simp [h1]
          rw [e, e1] at ee; rw [ee]
    rw [if_pos hk, e]
  · intro m h h0 hm
    rw [Go.Lib.compactUpTo_succ]
    have h1 : m - 1 < zs.length := by omega
    have hk : Go.Lib.keeps zs.toArray m = false := by
      unfold Go.Lib.keeps
      apply decide_eq_false
      rintro (hh | hh)
      · exact h0 hh
      · apply hh
        rw [List.getElem?_eq_getElem h, List.getElem?_eq_getElem h1] at hm
        have e : zs.toArray[m]! = zs[m] := by simp [h]
        have e1 : zs.toArray[m - 1]! = zs[m - 1] := by simp [h1]
        rw [e, e1]; exact Option.some.inj hm
    rw [hk]; simp
theorem leS_iff (x y : List UInt8) : leS x y = true ↔ x < y ∨ x = y := by
  simp only [leS, Bool.not_eq_true', decide_eq_false_iff_not, sgnS_lt, List.not_lt]
  constructor
  · intro h
    by_cases hl : x < y
    · exact .inl hl
    · exact .inr (List.le_antisymm h (List.not_lt.1 hl))
  · rintro (h | rfl)
    · exact List.le_of_lt h
    · exact List.le_refl _
theorem sortS_rise (l : List (List UInt8)) : (l.mergeSort leS).Pairwise (fun x y => x < y ∨ x = y) := by
  have := List.pairwise_mergeSort (le := leS) (fun a b c h1 h2 => by
    rw [leS_iff] at *
    rcases h1 with h1 | rfl
    · rcases h2 with h2 | rfl
      · exact .inl (List.lt_trans h1 h2)
      · exact .inl h1
    · exact h2) (fun a b => by
    rw [Bool.or_eq_true, leS_iff, leS_iff]
    by_cases h : a < b
    · exact .inl (.inl h)
    · rcases List.not_lt.1 h with _
      by_cases h2 : b < a
      · exact .inr (.inl h2)
      · exact .inl (.inr (List.le_antisymm (List.not_lt.1 h2) (List.not_lt.1 h)))) l
  exact this.imp fun h => (leS_iff _ _).1 h
theorem ifc_spec (l : List S_api_Join) (f : S_api_Flow) : (ifc l f).Pairwise (· < ·) ∧ ∀ y, y ∈ ifc l f ↔ y ∈ gS l f := by
  obtain ⟨h1, h2⟩ := comp_spec _ (sortS_rise (gS l f))
  exact ⟨h1, fun y => (h2 y).trans (List.mergeSort_perm _ _).mem_iff⟩
theorem sameT_l0 (a : List (List UInt8)) (ha : a.length ≤ 1000) : ∀ (n kk i : Nat), i + n = a.length → n < kk → vineryref20_SameTexts.l0 a a kk (i : Int) = some (.inr ())
  | 0, kk + 1, i, hi, _ => by rw [vineryref20_SameTexts.l0, if_neg (by simp; omega)]
  | n + 1, kk + 1, i, hi, hk => by
    rw [vineryref20_SameTexts.l0, if_pos (by simp; omega), if_pos (by omega), if_pos (by omega), if_neg (by simp), wrapS i (by omega)]
    exact sameT_l0 a ha n kk (i + 1) (by omega) (by omega)
theorem sameT_f (k : Nat) (a : List (List UInt8)) (ha : a.length ≤ 1000) (hk : a.length < k) : vineryref20_SameTexts.f k a a = some true := by
  unfold vineryref20_SameTexts.f
  rw [if_neg (by simp), show (0 : Int) = ((0 : Nat) : Int) from rfl, sameT_l0 a ha a.length k 0 (by omega) hk]; rfl
theorem bstr_toList (l : List UInt8) : (bstr l).toList = l := by rw [ByteArray.toList_eq]; simp [bstr]
/-! orders -/
structure IsCmp {α : Type} (c : α → α → Int) : Prop where
  range : ∀ a b, c a b = -1 ∨ c a b = 0 ∨ c a b = 1
  neg : ∀ a b, c b a = - c a b
  trans : ∀ a b d, c a b ≤ 0 → c b d ≤ 0 → c a d ≤ 0 ∧ (c a b < 0 ∨ c b d < 0 → c a d < 0)
theorem IsCmp.by {α β : Type} {c : β → β → Int} (h : IsCmp c) (f : α → β) : IsCmp (fun a b => c (f a) (f b)) := ⟨fun _ _ => h.range _ _, fun _ _ => h.neg _ _, fun _ _ _ => h.trans _ _ _⟩
theorem rd_at (l : List Int) (i : Nat) (hi : i < l.length) : rd l (i : Int) = l[i] := by simp [rd, List.getD, hi]
theorem ar_at (l : List Int) (i : Nat) (hi : i < l.length) : ar l i = l[i] := by simp [ar, List.getD, hi]
theorem eqAd_iff {x y : S_api_Addr} (hx : okAb x = true) (hy : okAb y = true) : eqAd x y = true ↔ x = y := by
  simp only [okAb, Bool.and_eq_true, beq_iff_eq] at hx hy
  constructor
  · intro h
    simp only [eqAd, Bool.and_eq_true, beq_iff_eq, Bool.and_true] at h
    obtain ⟨h1, h2⟩ := h
    rw [eqA_iff] at h2
    have e : x.B = y.B := by
      apply List.ext_getElem (by rw [hx.1, hy.1])
      intro i q1 q2
      have := h2 i (by omega)
      rwa [ar_at _ _ q1, ar_at _ _ q2] at this
    cases x; cases y
    simp at h1 e
    rw [h1, e]
  · rintro rfl
    have : eqA 16 x.B x.B = true := by rw [eqA_iff]; intro i _; rfl
    simp [eqAd, this]
def ltA (x y : S_api_Addr) : Prop := cmpA x y < 0
theorem ltA_irr (x : S_api_Addr) : ¬ ltA x x := by
  unfold ltA; rw [cmpA_lt]
  rintro (h | ⟨_, h⟩)
  · omega
  · exact List.lt_irrefl _ h
theorem ltA_tr (x y z : S_api_Addr) (h1 : ltA x y) (h2 : ltA y z) : ltA x z := by
  unfold ltA at *; rw [cmpA_lt] at *
  rcases h1 with h1 | ⟨e1, h1⟩ <;> rcases h2 with h2 | ⟨e2, h2⟩
  · exact .inl (by omega)
  · exact .inl (by omega)
  · exact .inl (by omega)
  · exact .inr ⟨e1.trans e2, List.lt_trans h1 h2⟩
theorem ltA_tot {x y : S_api_Addr} (hx : okAb x = true) (hy : okAb y = true) (h1 : ¬ ltA x y) (h2 : ¬ ltA y x) : x = y := by
  unfold ltA at h1 h2
  rw [cmpA_lt] at h1 h2
  simp only [not_or, not_and, List.not_lt] at h1 h2
  have es : x.Size = y.Size := by omega
  have eb := byA_inj hx hy (List.le_antisymm (h2.2 es.symm) (h1.2 es))
  cases x; cases y
  simp at es eb
  rw [es, eb]
def allA (l : List S_api_Addr) : Prop := ∀ x ∈ l, okAb x = true
theorem ddA_spec (zs : List S_api_Addr) (hv : allA zs) (hs : zs.Pairwise (fun x y => ltA x y ∨ x = y)) : (ddA zs zs.length).Pairwise ltA ∧ ∀ y, y ∈ ddA zs zs.length ↔ y ∈ zs := by
  have gD : ∀ i (h : i < zs.length), zs.getD i zA = zs[i] := fun i h => by rw [List.getD_eq_getElem?_getD, List.getElem?_eq_getElem h]; rfl
  have key := dd_gen (lt := ltA) ltA_irr ltA_tr zs hs (fun m => ddA zs m) (by simp [ddA]) ?_ ?_ zs.length (Nat.le_refl _)
  · rw [List.take_length] at key; exact key
  · intro m h hm
    have hk : keepA zs m = true := by
      unfold keepA
      by_cases h0 : m = 0
      · simp [h0]
      · have h1 : m - 1 < zs.length := by omega
        rw [gD m h, gD (m - 1) h1]
        have hne : zs[m] ≠ zs[m - 1] := by
          rcases hm with hm | hm
          · exact absurd hm h0
          · rw [List.getElem?_eq_getElem h, List.getElem?_eq_getElem h1] at hm
            exact fun e => hm (by rw [e])
        have : eqAd zs[m] zs[m - 1] = false := by
          cases hq : eqAd zs[m] zs[m - 1]
          · rfl
          · exact absurd ((eqAd_iff (hv _ (List.getElem_mem _)) (hv _ (List.getElem_mem _))).1 hq) hne
        rw [this]; simp
    show ddA zs (m + 1) = _
    rw [ddA_succ, if_pos hk, gD m h]
  · intro m h h0 hm
    have h1 : m - 1 < zs.length := by omega
    rw [List.getElem?_eq_getElem h, List.getElem?_eq_getElem h1] at hm
    have hk : keepA zs m = false := by
      unfold keepA
      rw [gD m h, gD (m - 1) h1, (eqAd_iff (hv _ (List.getElem_mem _)) (hv _ (List.getElem_mem _))).2 (Option.some.inj hm)]
      simp [h0]
    show ddA zs (m + 1) = _
    rw [ddA_succ, hk]; simp
theorem leA_iff {x y : S_api_Addr} (hx : okAb x = true) (hy : okAb y = true) : leA x y = true ↔ ltA x y ∨ x = y := by
  simp only [leA, Bool.not_eq_true', decide_eq_false_iff_not]
  constructor
  · intro h
    by_cases hl : ltA x y
    · exact .inl hl
    · exact .inr (ltA_tot hx hy hl h)
  · rintro (h | rfl)
    · exact fun h2 => ltA_irr _ (ltA_tr _ _ _ h h2)
    · exact ltA_irr _
theorem sortA_rise (l : List S_api_Addr) (hv : allA l) : (l.mergeSort leA).Pairwise (fun x y => ltA x y ∨ x = y) := by
  have h := List.pairwise_mergeSort (le := leA) (fun a b c h1 h2 => by
    simp only [leA, Bool.not_eq_true', decide_eq_false_iff_not] at *
    have e1 := sk_swo.ntrans
    rw [cmpA_lt] at *
    simp only [not_or, not_and, List.not_lt] at *
    obtain ⟨a1, b1⟩ := h1
    obtain ⟨a2, b2⟩ := h2
    exact ⟨by omega, fun e => List.le_trans (b1 (by omega)) (b2 (by omega))⟩) (fun a b => by
    rw [Bool.or_eq_true]
    simp only [leA, Bool.not_eq_true', decide_eq_false_iff_not]
    by_cases h : ltA b a
    · exact .inr fun h2 => ltA_irr _ (ltA_tr _ _ _ h h2)
    · exact .inl h) l
  have hm : ∀ x ∈ l.mergeSort leA, okAb x = true := fun x hx => hv x ((List.mergeSort_perm l leA).mem_iff.1 hx)
  exact h.imp_of_mem fun {a b} ha hb hab => (leA_iff (hm a ha) (hm b hb)).1 hab
def grB (j : S_api_Join) (n : List UInt8) : Bool := j.Vrf == n && j.Source.Size == 0
def gG (l : List S_api_Join) (n : List UInt8) : List S_api_Addr := (l.filter (grB · n)).map (·.Group)
theorem grB_f (j : S_api_Join) (n : List UInt8) : joins_Groups_1.f j n = some (grB j n) := by
  unfold joins_Groups_1.f grB
  simp only [bstrL]
  by_cases h1 : j.Vrf = n <;> simp [h1]
theorem gathG_l0 (l : List S_api_Join) (f : List UInt8) (hl : l.length ≤ 1000) : ∀ (n kk i : Nat) (x8 : List S_api_Addr), i + n = l.length → n < kk → x8.length ≤ i → api_Addr_joins_Groups_1_joins_Groups_2_addr_Compare.l0 l f kk x8 (i : Int) = some (x8 ++ gG (l.drop i) f)
  | 0, kk + 1, i, x8, hi, _, _ => by
    rw [api_Addr_joins_Groups_1_joins_Groups_2_addr_Compare.l0, if_neg (by simp; omega), List.drop_eq_nil_of_le (by omega)]
    simp [gG]
  | n + 1, kk + 1, i, x8, hi, hk, hx => by
    have hil : i < l.length := by omega
    have ed : l.drop i = l[i] :: l.drop (i + 1) := List.drop_eq_getElem_cons hil
    rw [api_Addr_joins_Groups_1_joins_Groups_2_addr_Compare.l0, if_pos (by simp; omega), if_pos (by omega), rdA l i hil, grB_f, Option.bind_some, wrapS i (by omega)]
    unfold gG
    rw [ed, List.filter_cons]
    by_cases h : grB l[i] f = true
    · rw [if_pos h, if_pos h]
      show (some l[i].Group).bind _ = _
      rw [Option.bind_some, if_pos (by simp; omega), gathG_l0 l f hl n kk (i + 1) _ (by omega) (by omega) (by simp; omega)]
      simp [gG]
    · rw [if_neg h, if_neg h, gathG_l0 l f hl n kk (i + 1) _ (by omega) (by omega) (by omega)]
      rfl
def grc (l : List S_api_Join) (n : List UInt8) : List S_api_Addr := ddA ((gG l n).mergeSort leA) (gG l n).length
def allJ (l : List S_api_Join) : Prop := ∀ j ∈ l, okAb j.Group = true
theorem gG_v {l : List S_api_Join} (h : allJ l) (n : List UInt8) : allA (gG l n) := by
  intro x hx
  simp only [gG, List.mem_map, List.mem_filter] at hx
  obtain ⟨j, ⟨hj, _⟩, rfl⟩ := hx
  exact h j hj
theorem groups_f (k : Nat) (l : List S_api_Join) (n : List UInt8) (hv : allJ l) (hl : l.length ≤ 1000) (hk : l.length < k) : joins_Groups.f k l n = some (grc l n) := by
  have h := gathG_l0 l n hl l.length k 0 [] (by omega) (by omega) (Nat.le_refl _)
  have hlen : (gG l n).length ≤ l.length := by unfold gG; rw [List.length_map]; exact List.length_filter_le _ _
  unfold joins_Groups.f api_Addr_joins_Groups_1_joins_Groups_2_addr_Compare.f
  rw [show (0 : Int) = ((0 : Nat) : Int) from rfl, h, List.nil_append, List.drop_zero, Option.bind_some]
  unfold slices_SortA.f
  rw [if_pos ⟨by omega, List.all_eq_true.2 (gG_v hv n)⟩, Option.bind_some]
  unfold slices_CompA.f
  rw [if_pos (by rw [List.length_mergeSort]; omega), List.length_mergeSort]
  rfl
theorem grc_spec (l : List S_api_Join) (n : List UInt8) (hv : allJ l) : (grc l n).Pairwise ltA ∧ ∀ y, y ∈ grc l n ↔ y ∈ gG l n := by
  have hm : allA ((gG l n).mergeSort leA) := fun x hx => gG_v hv n x ((List.mergeSort_perm _ _).mem_iff.1 hx)
  have h := ddA_spec _ hm (sortA_rise (gG l n) (gG_v hv n))
  rw [List.length_mergeSort] at h
  exact ⟨h.1, fun y => (h.2 y).trans (List.mergeSort_perm _ _).mem_iff⟩
def smG : S_api_Addr := ⟨4, [224, 0, 0, 1, 0, 0, 0, 0, 0, 0, 0, 0, 0, 0, 0, 0]⟩
def smS (b : Int) : S_api_Addr := ⟨4, [10, 1, 0, b, 0, 0, 0, 0, 0, 0, 0, 0, 0, 0, 0, 0]⟩
def smX : S_api_Join := ⟨[97], [120], smS 1, smG⟩
def smY : S_api_Join := ⟨[97], [121], ⟨0, List.replicate 16 0⟩, smG⟩
def smZ : S_api_Join := ⟨[97], [88], ⟨0, List.replicate 16 0⟩, smG⟩
theorem ifc_is {l : List S_api_Join} {f : S_api_Flow} {r : List (List UInt8)} (h : r.Pairwise (· < ·)) (hm : ∀ y, y ∈ r ↔ y ∈ gS l f) : ifc l f = r :=
  rows_unique (lt := fun x y : List UInt8 => x < y) (fun x => List.lt_irrefl x) (fun x y z => List.lt_trans) (ifc_spec l f).1 h (fun y => ((ifc_spec l f).2 y).trans (hm y).symm)
theorem grc_is {l : List S_api_Join} {n : List UInt8} (hv : allJ l) {r : List S_api_Addr} (h : r.Pairwise ltA) (hm : ∀ y, y ∈ r ↔ y ∈ gG l n) : grc l n = r :=
  rows_unique (lt := ltA) ltA_irr ltA_tr (grc_spec l n hv).1 h (fun y => ((grc_spec l n hv).2 y).trans (hm y).symm)
theorem sm_a1 (k : Nat) : Jn_Add.f (k + 60) ⟨[]⟩ smX = some (0, ⟨[smX]⟩) := by kernel_rfl
theorem sm_a2 (k : Nat) : Jn_Add.f (k + 60) ⟨[smX]⟩ smY = some (0, ⟨[smY, smX]⟩) := by kernel_rfl
theorem sm_a3 (k : Nat) : Jn_Add.f (k + 60) ⟨[smY, smX]⟩ smZ = some (1, ⟨[smY, smX]⟩) := by kernel_rfl
theorem sm_i1 : ifc [smY, smX] ⟨[97], smS 1, smG⟩ = [[120], [121]] := ifc_is (by decide) (fun y => by
    have : gS [smY, smX] ⟨[97], smS 1, smG⟩ = [[121], [120]] := by decide
    rw [this]; simp; exact Or.comm)
theorem sm_i2 : ifc [smY, smX] ⟨[97], smS 2, smG⟩ = [[121]] := ifc_is (by decide) (fun y => by
    have : gS [smY, smX] ⟨[97], smS 2, smG⟩ = [[121]] := by decide
    rw [this])
theorem sm_v : allJ [smY, smX] := by
    intro j hj
    simp at hj
    rcases hj with rfl | rfl <;> decide
theorem sm_g1 : grc [smY, smX] [97] = [smG] := grc_is sm_v (List.pairwise_singleton _ _) (fun y => by
    have : gG [smY, smX] [97] = [smG] := by decide
    rw [this])
theorem small20 (k : Nat) : vinerylaw20_small.f (k + 60) = some true := by
  have f1 := ifaces_f (k + 60) [smY, smX] ⟨[97], smS 1, smG⟩ (by decide) (by simp)
  have f2 := ifaces_f (k + 60) [smY, smX] ⟨[97], smS 2, smG⟩ (by decide) (by simp)
  have f3 := groups_f (k + 60) [smY, smX] [97] sm_v (by decide) (by simp)
  rw [sm_i1] at f1; rw [sm_i2] at f2; rw [sm_g1] at f3
  have n0 : Jn_New.f = some ⟨[]⟩ := rfl
  have o1 : vinerylaw20_Of.f [120] 1 1 = some smX := rfl
  have o2 : vinerylaw20_Of.f [121] 0 1 = some smY := rfl
  have o3 : vinerylaw20_Of.f [88] 0 1 = some smZ := rfl
  have v1 : vinerylaw07_V4.f 10 1 0 1 = some (smS 1) := rfl
  have v2 : vinerylaw07_V4.f 10 1 0 2 = some (smS 2) := rfl
  have v3 : vinerylaw07_V4.f 224 0 0 1 = some smG := rfl
  have al : Jn_All.f ⟨[smY, smX]⟩ = some [smY, smX] := rfl
  unfold vinerylaw20_small.f
  simp only [n0, o1, o2, o3, v1, v2, v3, al, Option.bind_some, sm_a1, sm_a2, sm_a3, f1, f2, f3]
  simp [bstrL, rd]
/-! trimming zeros -/
theorem tr_nil (k : Nat) : bytes_trimRightByte.l0 0 (k + 1) [] = some [] := by unfold bytes_trimRightByte.l0; simp
theorem tr_snoc (k : Nat) (y : List Int) (c : Int) (h : y.length ≤ 100) : bytes_trimRightByte.l0 0 (k + 1) (y ++ [c]) = if c = 0 then bytes_trimRightByte.l0 0 k y else some (y ++ [c]) := by
  rw [bytes_trimRightByte.l0]
  have hl : (y ++ [c]).length = y.length + 1 := by simp
  have e : IntKind.i64.wrap (((y ++ [c]).length : Int) - 1) = (y.length : Int) := by rw [hl, IntKind.wrap_i64]; omega
  have er : rd (y ++ [c]) (y.length : Int) = c := by rw [rd_at _ _ (by simp)]; simp
  rw [e, er, if_pos (by simp <;> omega), if_pos (by rw [hl]; omega), Option.bind_some]
  by_cases hc : c = 0
  · rw [if_pos (by simpa using hc), if_pos (by rw [hl]; simp <;> omega), if_pos hc]
    simp
  · rw [if_neg (by simpa using hc), if_neg hc]
theorem tr_ok : ∀ (n k : Nat) (x : List Int), x.length = n → n < k → n ≤ 100 → ∃ r, bytes_trimRightByte.l0 0 k x = some r ∧ r.length ≤ x.length ∧ r.all (· == 0) = x.all (· == 0)
  | 0, k, x, h, hk, _ => by
    obtain ⟨k, rfl⟩ : ∃ k', k = k' + 1 := ⟨k - 1, by omega⟩
    obtain rfl := List.eq_nil_of_length_eq_zero h
    exact ⟨[], tr_nil k, Nat.le_refl _, rfl⟩
  | n + 1, k, x, h, hk, hn => by
    obtain ⟨k, rfl⟩ : ∃ k', k = k' + 1 := ⟨k - 1, by omega⟩
    have hne : x ≠ [] := by intro e; subst e; simp at h
    have hx : x = x.dropLast ++ [x.getLast hne] := (List.dropLast_concat_getLast hne).symm
    have hd : x.dropLast.length = n := by simp [h]
    generalize x.dropLast = y at hx hd
    generalize x.getLast hne = c at hx
    subst hx
    rw [tr_snoc k y c (by omega)]
    by_cases hc : c = 0
    · obtain ⟨r, h1, h2, h3⟩ := tr_ok n k y hd (by omega) (by omega)
      exact ⟨r, by rw [if_pos hc]; exact h1, by simp; omega, by rw [h3]; simp [hc]⟩
    · exact ⟨_, if_neg hc, Nat.le_refl _, rfl⟩
theorem tl_nil (k : Nat) : bytes_trimLeftByte.l0 0 (k + 1) [] = some [] := by unfold bytes_trimLeftByte.l0; simp
theorem tl_cons (k : Nat) (y : List Int) (c : Int) : bytes_trimLeftByte.l0 0 (k + 1) (c :: y) = if c = 0 then bytes_trimLeftByte.l0 0 k y else some (c :: y) := by
  rw [bytes_trimLeftByte.l0]
  have er : rd (c :: y) 0 = c := rfl
  rw [er, if_pos (by simp <;> omega), if_pos (by simp <;> omega), Option.bind_some]
  by_cases hc : c = 0
  · rw [if_pos (by simpa using hc), if_pos (by simp <;> omega), if_pos hc]
    simp
  · rw [if_neg (by simpa using hc), if_neg hc]
theorem tl_ok : ∀ (x : List Int) (k : Nat), x.length < k → ∃ r, bytes_trimLeftByte.l0 0 k x = some r ∧ (((r.length : Int) == 0) = x.all (· == 0))
  | [], k, hk => by
    obtain ⟨k, rfl⟩ : ∃ k', k = k' + 1 := ⟨k - 1, by omega⟩
    exact ⟨[], tl_nil k, rfl⟩
  | c :: y, k, hk => by
    obtain ⟨k, rfl⟩ : ∃ k', k = k' + 1 := ⟨k - 1, by omega⟩
    rw [tl_cons]
    by_cases hc : c = 0
    · obtain ⟨r, h1, h2⟩ := tl_ok y k (by simp at hk; omega)
      exact ⟨r, by rw [if_pos hc]; exact h1, by rw [h2]; simp [hc]⟩
    · refine ⟨_, if_neg hc, ?_⟩
      have : (c == 0) = false := by simpa using hc
      simp only [List.all_cons, this, Bool.false_and]
      simp
      omega
theorem trim_ok (k : Nat) (x : List Int) (hx : x.length ≤ 16) : ∃ r, bytes_Trim.f (k + 20) x [0] = some r ∧ (((r.length : Int) == 0) = x.all (· == 0)) := by
  by_cases h0 : x.length = 0
  · obtain rfl := List.eq_nil_of_length_eq_zero h0
    exact ⟨[], rfl, rfl⟩
  · obtain ⟨r, h1, h2, h3⟩ := tr_ok x.length (k + 20) x rfl (by omega) (by omega)
    obtain ⟨r', h4, h5⟩ := tl_ok r (k + 20) (by omega)
    have e : bytes_Trim.f (k + 20) x [0] = (bytes_trimRightByte.f (k + 20) x 0).bind fun t21 => (bytes_trimLeftByte.f (k + 20) t21 0).bind fun t24 => some t24 := by
      unfold bytes_Trim.f
      have hs : (((bstr ([0] : List UInt8)).size : Int) == (1 : Int)) = true := rfl
      have ez : ((([0] : List UInt8).getD (Int.toNat (0 : Int)) 0).toNat : Int) = 0 := rfl
      rw [if_neg (by simpa using h0), if_neg (by rw [bstr_toList, bstr_toList]; decide), if_pos hs, ez, if_pos (by decide), Option.bind_some, if_pos (by decide), if_pos (by decide), if_pos (by decide)]
    rw [e]
    unfold bytes_trimRightByte.f bytes_trimLeftByte.f
    rw [h1, Option.bind_some, Option.bind_some, h4, Option.bind_some]
    by_cases hr : r'.length = 0
    · obtain rfl := List.eq_nil_of_length_eq_zero hr
      exact ⟨[], rfl, by rw [← h3, ← h5]⟩
    · rw [if_neg (by simpa using hr)]
      exact ⟨r', rfl, by rw [h5, h3]⟩
/-! addresses -/
def isSz (n : Int) : Bool := n == 0 || n == 4 || n == 16
def rightB (a : S_api_Addr) : Bool := isSz a.Size && ((arL 16 a.B).drop a.Size.toNat).all (· == 0)
theorem right_go (k : Nat) (a : S_api_Addr) (h : a.Size = 0 ∨ a.Size = 4 ∨ a.Size = 16) : addr_Right.f (k + 20) a = some (((arL 16 a.B).drop a.Size.toNat).all (· == 0)) := by
  have h16 : (arL 16 a.B).length = 16 := arL_length _ _
  have ht : (arL 16 a.B).take (Int.toNat 16) = arL 16 a.B := by rw [List.take_of_length_le]; rw [h16]; exact Nat.le_refl _
  obtain ⟨r, h1, h2⟩ := trim_ok k ((arL 16 a.B).drop a.Size.toNat) (by rw [List.length_drop, h16]; omega)
  have hc : (if (a.Size == (0 : Int)) = true then some (a.Size == (0 : Int) : Bool) else (if (a.Size == (4 : Int)) = true then some (a.Size == (4 : Int) : Bool) else some (a.Size == (16 : Int) : Bool))) = some true := by
    rcases h with h | h | h <;> simp [h]
  unfold addr_Right.f
  rw [ht, hc, Option.bind_some, if_pos rfl, if_pos (by omega), h1, Option.bind_some, h2]
theorem right_ok (k : Nat) (a : S_api_Addr) : addr_Right.f (k + 20) a = some (rightB a) := by
  by_cases h : a.Size = 0 ∨ a.Size = 4 ∨ a.Size = 16
  · rw [right_go k a h]
    have : isSz a.Size = true := by unfold isSz; simp; omega
    unfold rightB
    rw [this, Bool.true_and]
  · have h0 : ¬ a.Size = 0 := by omega
    have h4 : ¬ a.Size = 4 := by omega
    have h16 : ¬ a.Size = 16 := by omega
    unfold addr_Right.f rightB isSz
    simp [h0, h4, h16]
def mcastB (a : S_api_Addr) : Bool := rightB a && (if a.Size = 4 then Int.fdiv (ar a.B 0) (2 ^ (min (4 : Int).toNat IntKind.u8.bits)) == 14 else a.Size == 16 && ar a.B 0 == 255)
theorem mcast_ok (k : Nat) (a : S_api_Addr) : addr_Multicast.f (k + 20) a = some (mcastB a) := by
  unfold addr_Multicast.f mcastB
  rw [right_ok, Option.bind_some]
  cases rightB a
  · rfl
  · simp only [Bool.not_true, Bool.false_eq_true, if_false, Bool.true_and]
    by_cases h4 : a.Size = 4
    · simp [h4]
    · by_cases h16 : a.Size = 16
      · simp [h16]
      · simp [h4, h16]
theorem named_f (s : List UInt8) : ∃ b, joins_named.f s = some b := by
  unfold joins_named.f
  by_cases h1 : (!((bstr s).toList == (bstr ([] : List UInt8)).toList)) = true
  · rw [if_pos h1]
    by_cases h2 : (decide (((bstr s).size : Int) ≤ (8 : Int))) = true
    · rw [if_pos h2]
      unfold strings_Trim.f
      have h3 : s.length ≤ 8 := by
        have := of_decide_eq_true h2
        have e : (bstr s).size = s.length := by simp [bstr, ByteArray.size]
        omega
      rw [if_pos ⟨by omega, by decide, by decide⟩]
      exact ⟨_, rfl⟩
    · rw [if_neg h2]; exact ⟨_, rfl⟩
  · rw [if_neg h1]; exact ⟨_, rfl⟩
theorem rightJ_f (k : Nat) (j : S_api_Join) : ∃ b, joins_Right.f (k + 20) j = some b := by
  unfold joins_Right.f
  obtain ⟨b1, e1⟩ := named_f j.Vrf
  obtain ⟨b2, e2⟩ := named_f j.Iface
  rw [e1, Option.bind_some, e2, mcast_ok, right_ok, mcast_ok]
  simp only [Option.bind_some]
  cases b1 <;> cases b2 <;> cases mcastB j.Group <;> cases rightB j.Source <;> cases mcastB j.Source <;> (try simp only [Bool.not_false, Bool.not_true, if_true, Bool.false_eq_true, if_false, Option.bind_some]) <;> (repeat' split) <;> exact ⟨_, rfl⟩
theorem ask_l0 (j : S_api_Join) (was : List (List UInt8)) (hl : was.length ≤ 1000) : ∀ (n kk i : Nat) (had : Bool), i + n = was.length → n < kk → vinerylaw20_JoinsAsks.l0 j was kk had (i : Int) = some (had || (was.drop i).any (· == j.Iface))
  | 0, kk + 1, i, had, hi, _ => by
    rw [vinerylaw20_JoinsAsks.l0, if_neg (by simp; omega), List.drop_eq_nil_of_le (by omega)]; simp
  | n + 1, kk + 1, i, had, hi, hk => by
    have hil : i < was.length := by omega
    rw [vinerylaw20_JoinsAsks.l0, if_pos (by simp; omega), if_pos (show 0 ≤ (i : Int) ∧ (i : Int) < (was.length : Int) by omega), rdA was i hil, bstrL, bstrL, wrapS i (by omega), List.drop_eq_getElem_cons hil, List.any_cons]
    cases had
    · rw [if_neg (by simp), Option.bind_some, ask_l0 j was hl n kk (i + 1) _ (by omega) (by omega)]
      simp
    · rw [if_pos rfl, Option.bind_some, ask_l0 j was hl n kk (i + 1) _ (by omega) (by omega)]
      simp
theorem ask_l1 (j : S_api_Join) (s : List (List UInt8)) (hs : s.Pairwise (· < ·)) (hl : s.length ≤ 1000) : ∀ (n kk i c : Nat), i + n = s.length → n < kk → c ≤ i → vinerylaw20_JoinsAsks.l1 j s kk (c : Int) (i : Int) = some (.inr ((c + (s.drop i).count j.Iface : Nat) : Int))
  | 0, kk + 1, i, c, hi, _, _ => by
    rw [vinerylaw20_JoinsAsks.l1, if_neg (by simp; omega), List.drop_eq_nil_of_le (by omega)]; simp
  | n + 1, kk + 1, i, c, hi, hk, hc => by
    have hil : i < s.length := by omega
    have e62 : (if (decide ((i : Int) > (0 : Int))) = true then (if 0 ≤ (IntKind.i64.wrap ((i : Int) - (1 : Int))) ∧ (IntKind.i64.wrap ((i : Int) - (1 : Int))) < (s.length : Int) then (if 0 ≤ (i : Int) ∧ (i : Int) < (s.length : Int) then some (!Op.bytesLess (bstr (rd s (IntKind.i64.wrap ((i : Int) - (1 : Int))))).toList (bstr (rd s (i : Int))).toList : Bool) else none) else none) else some (false : Bool)) = some false := by
      by_cases h0 : i = 0
      · subst h0; rfl
      · have e : IntKind.i64.wrap ((i : Int) - 1) = ((i - 1 : Nat) : Int) := by rw [IntKind.wrap_i64]; omega
        have h1 : i - 1 < s.length := by omega
        have hlt := List.pairwise_iff_getElem.1 hs (i - 1) i h1 hil (by omega)
        rw [if_pos (by simp; omega), e, if_pos (by omega), if_pos (by omega), rdA s (i - 1) h1, rdA s i hil, bstrL, bstrL, bless, decide_eq_true hlt]; rfl
    rw [vinerylaw20_JoinsAsks.l1, if_pos (by simp; omega), if_pos (show 0 ≤ (i : Int) ∧ (i : Int) < (s.length : Int) by omega), e62, rdA s i hil, bstrL, bstrL, wrapS i (by omega), wrapS c (by omega), List.drop_eq_getElem_cons hil, List.count_cons]
    by_cases h : (s[i] == j.Iface) = true
    · rw [if_pos h, if_pos h, Option.bind_some, Option.bind_some, if_neg (by simp), ask_l1 j s hs hl n kk (i + 1) (c + 1) (by omega) (by omega) (by omega)]
      congr 2
      omega
    · rw [if_neg h, if_neg h, Option.bind_some, Option.bind_some, if_neg (by simp), ask_l1 j s hs hl n kk (i + 1) c (by omega) (by omega) (by omega)]
      rfl
theorem asks_e (j : S_api_Join) (f : S_api_Flow) : (if ((bstr j.Vrf).toList == (bstr f.Vrf).toList) = true then (if ((j.Group.Size == f.Group.Size) && ((eqA 16 j.Group.B f.Group.B) && true)) = true then (if (j.Source.Size == (0 : Int)) = true then some (true : Bool) else some (((j.Source.Size == f.Source.Size) && ((eqA 16 j.Source.B f.Source.B) && true)) : Bool)) else some (false : Bool)) else some (false : Bool)) = some (asksB j f) := by
  unfold asksB eqAd
  simp only [bstrL]
  by_cases h1 : j.Vrf = f.Vrf <;> by_cases h2 : j.Group.Size = f.Group.Size <;> cases h3 : eqA 16 j.Group.B f.Group.B <;> by_cases h4 : j.Source.Size = 0 <;> simp [h1, h2, h4]
theorem right_mcast (k : Nat) (j : S_api_Join) (h : joins_Right.f (k + 20) j = some true) : addr_Multicast.f (k + 20) j.Group = some true := by
  rw [mcast_ok]
  unfold joins_Right.f at h
  obtain ⟨b1, e1⟩ := named_f j.Vrf
  obtain ⟨b2, e2⟩ := named_f j.Iface
  rw [e1, Option.bind_some, e2, mcast_ok, Option.bind_some] at h
  cases b1
  · simp at h
  · cases b2
    · simp at h
    · cases hm : mcastB j.Group
      · rw [hm] at h; simp at h
      · rfl
theorem gS_app (l : List S_api_Join) (j : S_api_Join) (f : S_api_Flow) : gS (l ++ [j]) f = gS l f ++ (if asksB j f = true then [j.Iface] else []) := by
  unfold gS
  rw [List.filter_append, List.map_append]
  by_cases h : asksB j f = true <;> simp [h]
theorem ifc_len (l : List S_api_Join) (f : S_api_Flow) : (ifc l f).length ≤ l.length := by
  have h1 := comp_len ((gS l f).mergeSort leS)
  rw [List.length_mergeSort] at h1
  have h2 : (gS l f).length ≤ l.length := by unfold gS; rw [List.length_map]; exact List.length_filter_le _ _
  unfold ifc; omega
theorem JoinsAsks.law (l : List S_api_Join) (hl : okL 80 okS_api_Join l) (j : S_api_Join) (hj : okS_api_Join j) (f : S_api_Flow) (hf : okS_api_Flow f) : ∃ k, vinerylaw20_JoinsAsks.f k l j f = some true := by
  refine ⟨1040 + 60, ?_⟩
  obtain ⟨b, eb⟩ := rightJ_f 1080 j
  have eb' : joins_Right.f (1040 + 60) j = some b := eb
  unfold vinerylaw20_JoinsAsks.f
  rw [small20, Option.bind_some, eb', Option.bind_some]
  by_cases hn : (decide ((l.length : Int) > (60 : Int))) = true
  · rw [if_pos hn]; rfl
  rw [if_neg hn]
  have hn : l.length ≤ 60 := by
    have := of_decide_eq_false (Bool.not_eq_true _ ▸ hn)
    omega
  cases b with
  | false => rfl
  | true =>
  rw [Option.bind_some, if_neg (by simp)]
  have hb : (l ++ [j]).length ≤ 61 := by simp; omega
  have lw := ifc_len l f
  have ln := ifc_len (l ++ [j]) f
  have w1 := ifc_spec l f
  have n1 := ifc_spec (l ++ [j]) f
  have c0 := ask_l0 j (ifc l f) (by omega) (ifc l f).length (1040 + 60) 0 false (by omega) (by omega)
  have c1 := ask_l1 j (ifc (l ++ [j]) f) n1.1 (by omega) (ifc (l ++ [j]) f).length (1040 + 60) 0 0 (by omega) (by omega) (by omega)
  have c0' : vinerylaw20_JoinsAsks.l0 j (ifc l f) (1040 + 60) false 0 = some (false || (ifc l f).any (· == j.Iface)) := c0
  have c1' : vinerylaw20_JoinsAsks.l1 j (ifc (l ++ [j]) f) (1040 + 60) 0 0 = some (.inr ((0 + ((ifc (l ++ [j]) f).drop 0).count j.Iface : Nat) : Int)) := c1
  rw [ifaces_f _ l f (by omega) (by omega), Option.bind_some, if_pos (by simp; omega), if_pos (by simp; omega), List.nil_append, ifaces_f _ (l ++ [j]) f (by omega) (by omega), Option.bind_some, Option.bind_some, asks_e, Option.bind_some, c0', Option.bind_some, c1', Option.bind_some, List.drop_zero, Bool.false_or]
  have same : ifc (l ++ [j]) f = ifc l f → (vineryref20_SameTexts.f (1040 + 60) (ifc l f) (ifc (l ++ [j]) f)) = some true := fun e => by
    rw [e]; exact sameT_f _ _ (by omega) (by omega)
  have hsame : (asksB j f = false ∨ j.Iface ∈ ifc l f) → ifc (l ++ [j]) f = ifc l f := fun h => by
    refine rows_unique (lt := fun x y : List UInt8 => x < y) (fun x => List.lt_irrefl x) (fun x y z => List.lt_trans) n1.1 w1.1 fun y => ?_
    rw [n1.2, gS_app, List.mem_append, w1.2]
    rcases h with h | h
    · simp [h]
    · refine ⟨fun hy => hy.elim id fun hy => ?_, .inl⟩
      split at hy
      · rw [List.mem_singleton] at hy; rw [hy]; exact (w1.2 _).1 h
      · simp at hy
  cases ha : asksB j f with
  | false =>
    simp only [Bool.not_false, if_true]
    rw [same (hsame (.inl ha))]; rfl
  | true =>
    simp only [Bool.not_true, Bool.false_eq_true, if_false]
    by_cases hh : j.Iface ∈ ifc l f
    · rw [if_pos (List.any_eq_true.2 ⟨_, hh, by simp⟩), if_pos trivial, same (hsame (.inr hh))]; rfl
    · have e0 : (ifc l f).any (· == j.Iface) = false := by
        rw [List.any_eq_false]; intro x hx he
        rw [beq_iff_eq] at he; subst he; exact hh hx
      have nd : ∀ {c : List (List UInt8)}, c.Pairwise (· < ·) → c.Nodup := fun hc => hc.imp fun {x y} hxy e => by subst e; exact List.lt_irrefl _ hxy
      have hp : (ifc (l ++ [j]) f).Perm (j.Iface :: ifc l f) := (List.perm_ext_iff_of_nodup (nd n1.1) (List.nodup_cons.2 ⟨hh, nd w1.1⟩)).2 fun y => by
        rw [n1.2, gS_app, List.mem_append, List.mem_cons, w1.2]
        simp only [ha, if_true, List.mem_singleton]
        exact Or.comm
      have hc : (ifc (l ++ [j]) f).count j.Iface = 1 := by
        rw [hp.count_eq, List.count_cons_self, List.count_eq_zero.2 hh]
      have hlen : (ifc (l ++ [j]) f).length = (ifc l f).length + 1 := by rw [hp.length_eq, List.length_cons]
      have em : addr_Multicast.f (1040 + 60) j.Group = some true := right_mcast 1080 j eb
      rw [e0, if_neg (by simp), if_pos trivial, hc, if_pos (by rfl), hlen, wrapS (ifc l f).length (by omega), if_pos (by simp), em]
      rfl
end Go.E
