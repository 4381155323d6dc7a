/- The plain law: what the walk computes is true, whatever the input. -/
import Derived.Test.YtildkadbjkfgfaaGreatDoorGenJoinsKeeps
import Derived.Test.YtildkadbjkfgfaaGreatDoorEngR
set_option linter.unusedVariables false
set_option linter.unusedSimpArgs false
namespace Go.E
open Go.RowKit Go.Sort
/-! rows in order, each once -/
section
variable {α : Type} {lt : α → α → Prop}
theorem dd_gen (hirr : ∀ x, ¬ lt x x) (htr : ∀ x y z, lt x y → lt y z → lt x z) (xs : List α) (hs : xs.Pairwise (fun x y => lt x y ∨ x = y)) (D : Nat → List α) (h0 : D 0 = [])
    (hy : ∀ m (h : m < xs.length), (m = 0 ∨ xs[m]? ≠ xs[m - 1]?) → D (m + 1) = D m ++ [xs[m]]) (hn : ∀ m (h : m < xs.length), m ≠ 0 → xs[m]? = xs[m - 1]? → D (m + 1) = D m) :
    ∀ m, m ≤ xs.length → (D m).Pairwise lt ∧ ∀ y, y ∈ D m ↔ y ∈ xs.take m
  | 0, _ => ⟨by simp [h0], by simp [h0]⟩
  | m + 1, hm => by
    obtain ⟨ih1, ih2⟩ := dd_gen hirr htr xs hs D h0 hy hn m (by omega)
    have hml : m < xs.length := by omega
    have ht : xs.take (m + 1) = xs.take m ++ [xs[m]] := by rw [List.take_add_one, List.getElem?_eq_getElem hml]; rfl
    by_cases hk : m = 0 ∨ xs[m]? ≠ xs[m - 1]?
    · rw [hy m hml hk, ht]
      refine ⟨?_, fun y => by rw [List.mem_append, List.mem_append, ih2]⟩
      rw [List.pairwise_append]
      refine ⟨ih1, List.pairwise_singleton _ _, fun y hy' z hz => ?_⟩
      rw [List.mem_singleton] at hz
      subst hz
      obtain ⟨j, hj, rfl⟩ := List.getElem_of_mem ((ih2 y).1 hy')
      have hjm : j < m := by rw [List.length_take] at hj; omega
      rw [List.getElem_take]
      have hm1 : m - 1 < xs.length := by omega
      have hne : xs[m - 1] ≠ xs[m] := by
        intro e
        rcases hk with hk | hk
        · omega
        · rw [List.getElem?_eq_getElem hml, List.getElem?_eq_getElem hm1, e] at hk; exact hk rfl
      have l1 : lt xs[m - 1] xs[m] := (List.pairwise_iff_getElem.1 hs (m - 1) m hm1 hml (by omega)).resolve_right hne
      by_cases hj1 : j = m - 1
      · subst hj1; exact l1
      · rcases List.pairwise_iff_getElem.1 hs j (m - 1) (by omega) hm1 (by omega) with h | h
        · exact htr _ _ _ h l1
        · rw [h]; exact l1
    · have hm0 : m ≠ 0 := fun e => hk (.inl e)
      have he : xs[m]? = xs[m - 1]? := Classical.byContradiction fun h => hk (.inr h)
      rw [hn m hml hm0 he, ht]
      refine ⟨ih1, fun y => ?_⟩
      rw [ih2, List.mem_append, List.mem_singleton]
      refine ⟨.inl, fun h => h.elim id fun e => ?_⟩
      have hm1 : m - 1 < xs.length := by omega
      rw [List.getElem?_eq_getElem hml, List.getElem?_eq_getElem hm1] at he
      rw [e, Option.some.inj he]
      exact List.mem_take_iff_getElem.2 ⟨m - 1, by omega, rfl⟩
theorem rows_unique (hirr : ∀ x, ¬ lt x x) (htr : ∀ x y z, lt x y → lt y z → lt x z) {a b : List α} (ha : a.Pairwise lt) (hb : b.Pairwise lt) (h : ∀ y, y ∈ a ↔ y ∈ b) : a = b := by
  have nd : ∀ {c : List α}, c.Pairwise lt → c.Nodup := fun hc => hc.imp fun {x y} hxy e => by subst e; exact hirr _ hxy
  have hp : a.Perm b := (List.perm_ext_iff_of_nodup (nd ha) (nd hb)).2 h
  exact List.Perm.eq_of_pairwise (le := lt) (fun x y _ _ h1 h2 => absurd (htr _ _ _ h1 h2) (hirr _)) ha hb hp
/-- a row that rises, with one more put in -/
theorem ins_rise (hirr : ∀ x, ¬ lt x x) (htr : ∀ x y z, lt x y → lt y z → lt x z) {out : List α} (hs : out.Pairwise lt) (x : α) (k : Nat) (hk : k ≤ out.length) (h1 : ∀ i (h : i < out.length), i < k → lt out[i] x) (h2 : ∀ (h : k < out.length), lt x out[k]) :
    (out.take k ++ ([x] ++ out.drop k)).Pairwise lt ∧ ∀ y, y ∈ out.take k ++ ([x] ++ out.drop k) ↔ y = x ∨ y ∈ out := by
  have hd : ∀ y ∈ out.drop k, lt x y := by
    intro y hy
    obtain ⟨i, hi, rfl⟩ := List.getElem_of_mem hy
    rw [List.length_drop] at hi
    rw [List.getElem_drop]
    have hkl : k < out.length := by omega
    by_cases e : i = 0
    · subst e; exact h2 hkl
    · exact htr _ _ _ (h2 hkl) (List.pairwise_iff_getElem.1 hs k (k + i) hkl (by omega) (by omega))
  have ht : ∀ y ∈ out.take k, lt y x := by
    intro y hy
    obtain ⟨i, hi, rfl⟩ := List.getElem_of_mem hy
    rw [List.length_take] at hi
    rw [List.getElem_take]
    exact h1 i (by omega) (by omega)
  constructor
  · rw [List.pairwise_append]
    refine ⟨hs.sublist (List.take_sublist _ _), ?_, ?_⟩
    · rw [List.singleton_append, List.pairwise_cons]
      exact ⟨hd, hs.sublist (List.drop_sublist _ _)⟩
    · intro y hy z hz
      rw [List.singleton_append, List.mem_cons] at hz
      rcases hz with rfl | hz
      · exact ht y hy
      · exact htr _ _ _ (ht y hy) (hd z hz)
  · intro y
    conv => rhs; rw [← List.take_append_drop k out]
    simp only [List.mem_append, List.mem_singleton]
    constructor
    · rintro (h | h | h)
      · exact .inr (.inl h)
      · exact .inl h
      · exact .inr (.inr h)
    · rintro (h | h | h)
      · exact .inr (.inl h)
      · exact .inl h
      · exact .inr (.inr h)
end
theorem rdA {α : Type} [Inhabited α] (l : List α) (i : Nat) (hi : i < l.length) : rd l (i : Int) = l[i] := by simp [rd, List.getD, hi]
theorem bstrL (l : List UInt8) : (bstr l).toList = l := by rw [ByteArray.toList_eq]; simp [bstr]
theorem wrapS (i : Nat) (h : i < 1000000) : IntKind.i64.wrap ((i : Int) + 1) = ((i + 1 : Nat) : Int) := by rw [IntKind.wrap_i64]; omega
def asksB (j : S_api_Join) (f : S_api_Flow) : Bool := j.Vrf == f.Vrf && (eqAd j.Group f.Group && (j.Source.Size == 0 || eqAd j.Source f.Source))
theorem asks_f (j : S_api_Join) (f : S_api_Flow) : joins_Ifaces_1.f j f = some (asksB j f) := by
  unfold joins_Ifaces_1.f joins_asks.f asksB eqAd
  simp only [bstrL]
  by_cases h1 : j.Vrf = f.Vrf <;> by_cases h2 : j.Group.Size = f.Group.Size <;> cases h3 : eqA 16 j.Group.B f.Group.B <;> by_cases h4 : j.Source.Size = 0 <;> simp [h1, h2, h4]
def gS (l : List S_api_Join) (f : S_api_Flow) : List (List UInt8) := (l.filter (asksB · f)).map (·.Iface)
theorem gath_l0 (l : List S_api_Join) (f : S_api_Flow) (hl : l.length ≤ 1000) : ∀ (n kk i : Nat) (x8 : List (List UInt8)), i + n = l.length → n < kk → x8.length ≤ i → joins_gathered_string_joins_Ifaces_1_joins_Ifaces_2_cmp_Compare_string.l0 l f kk x8 (i : Int) = some (x8 ++ gS (l.drop i) f)
  | 0, kk + 1, i, x8, hi, _, _ => by
    rw [joins_gathered_string_joins_Ifaces_1_joins_Ifaces_2_cmp_Compare_string.l0, if_neg (by simp; omega), List.drop_eq_nil_of_le (by omega)]
    simp [gS]
  | n + 1, kk + 1, i, x8, hi, hk, hx => by
    have hil : i < l.length := by omega
    have ed : l.drop i = l[i] :: l.drop (i + 1) := List.drop_eq_getElem_cons hil
    rw [joins_gathered_string_joins_Ifaces_1_joins_Ifaces_2_cmp_Compare_string.l0, if_pos (by simp; omega), if_pos (by omega), rdA l i hil, asks_f, Option.bind_some, wrapS i (by omega)]
    unfold gS
    rw [ed, List.filter_cons]
    by_cases h : asksB l[i] f = true
    · rw [if_pos h, if_pos h]
      show (some l[i].Iface).bind _ = _
      rw [Option.bind_some, if_pos (by simp; omega), gath_l0 l f hl n kk (i + 1) _ (by omega) (by omega) (by simp; omega)]
      simp [gS]
    · rw [if_neg h, if_neg h, gath_l0 l f hl n kk (i + 1) _ (by omega) (by omega) (by omega)]
      rfl
def ifc (l : List S_api_Join) (f : S_api_Flow) : List (List UInt8) := Go.Lib.compact ((gS l f).mergeSort leS)
theorem ifaces_f (k : Nat) (l : List S_api_Join) (f : S_api_Flow) (hl : l.length ≤ 1000) (hk : l.length < k) : joins_Ifaces.f k l f = some (ifc l f) := by
  have h := gath_l0 l f hl l.length k 0 [] (by omega) (by omega) (Nat.le_refl _)
  have hlen : (gS l f).length ≤ l.length := by unfold gS; rw [List.length_map]; exact List.length_filter_le _ _
  unfold joins_Ifaces.f joins_gathered_string_joins_Ifaces_1_joins_Ifaces_2_cmp_Compare_string.f
  rw [show (0 : Int) = ((0 : Nat) : Int) from rfl, h, List.nil_append, List.drop_zero, Option.bind_some]
  unfold slices_SortS.f
  rw [if_pos (by omega), Option.bind_some]
  unfold slices_CompS.f
  rw [if_pos (by rw [List.length_mergeSort]; omega)]
  rfl
theorem comp_spec (zs : List (List UInt8)) (hs : zs.Pairwise (fun x y => x < y ∨ x = y)) : (Go.Lib.compact zs).Pairwise (· < ·) ∧ ∀ y, y ∈ Go.Lib.compact zs ↔ y ∈ zs := by
  have key := dd_gen (lt := fun x y : List UInt8 => x < y) (fun x => List.lt_irrefl x) (fun x y z => List.lt_trans) zs hs (fun m => Go.Lib.compactUpTo zs.toArray m) (by simp [Go.Lib.compactUpTo]) ?_ ?_ zs.length (Nat.le_refl _)
  · rw [List.take_length] at key; exact key
  · intro m h hm
    rw [Go.Lib.compactUpTo_succ]
    have e : zs.toArray[m]! = zs[m] := by simp [h]
    have hk : Go.Lib.keeps zs.toArray m = true := by
      unfold Go.Lib.keeps
      apply decide_eq_true
      rcases hm with hm | hm
      · exact .inl hm
      · by_cases h0 : m = 0
        · exact .inl h0
        · refine .inr fun ee => hm ?_
          have h1 : m - 1 < zs.length := by omega
          rw [List.getElem?_eq_getElem h, List.getElem?_eq_getElem h1]
          have e1 : zs.toArray[m - 1]! = zs[m - 1] := by simp [h1]
          rw [e, e1] at ee; rw [ee]
    rw [if_pos hk, e]
  · intro m h h0 hm
    rw [Go.Lib.compactUpTo_succ]
    have h1 : m - 1 < zs.length := by omega
    have hk : Go.Lib.keeps zs.toArray m = false := by
      unfold Go.Lib.keeps
      apply decide_eq_false
      rintro (hh | hh)
      · exact h0 hh
      · apply hh
        rw [List.getElem?_eq_getElem h, List.getElem?_eq_getElem h1] at hm
        have e : zs.toArray[m]! = zs[m] := by simp [h]
        have e1 : zs.toArray[m - 1]! = zs[m - 1] := by simp [h1]
        rw [e, e1]; exact Option.some.inj hm
    rw [hk]; simp
theorem leS_iff (x y : List UInt8) : leS x y = true ↔ x < y ∨ x = y := by
  simp only [leS, Bool.not_eq_true', decide_eq_false_iff_not, sgnS_lt, List.not_lt]
  constructor
  · intro h
    by_cases hl : x < y
    · exact .inl hl
    · exact .inr (List.le_antisymm h (List.not_lt.1 hl))
  · rintro (h | rfl)
    · exact List.le_of_lt h
    · exact List.le_refl _
theorem sortS_rise (l : List (List UInt8)) : (l.mergeSort leS).Pairwise (fun x y => x < y ∨ x = y) := by
  have := List.pairwise_mergeSort (le := leS) (fun a b c h1 h2 => by
    rw [leS_iff] at *
    rcases h1 with h1 | rfl
    · rcases h2 with h2 | rfl
      · exact .inl (List.lt_trans h1 h2)
      · exact .inl h1
    · exact h2) (fun a b => by
    rw [Bool.or_eq_true, leS_iff, leS_iff]
    by_cases h : a < b
    · exact .inl (.inl h)
    · rcases List.not_lt.1 h with _
      by_cases h2 : b < a
      · exact .inr (.inl h2)
      · exact .inl (.inr (List.le_antisymm (List.not_lt.1 h2) (List.not_lt.1 h)))) l
  exact this.imp fun h => (leS_iff _ _).1 h
theorem ifc_spec (l : List S_api_Join) (f : S_api_Flow) : (ifc l f).Pairwise (· < ·) ∧ ∀ y, y ∈ ifc l f ↔ y ∈ gS l f := by
  obtain ⟨h1, h2⟩ := comp_spec _ (sortS_rise (gS l f))
  exact ⟨h1, fun y => (h2 y).trans (List.mergeSort_perm _ _).mem_iff⟩
theorem bstr_toList (l : List UInt8) : (bstr l).toList = l := by rw [ByteArray.toList_eq]; simp [bstr]
theorem cmp_range : ∀ (a b : List UInt8), Go.Lib.compareBytes a b = -1 ∨ Go.Lib.compareBytes a b = 0 ∨ Go.Lib.compareBytes a b = 1
  | [], [] => .inr (.inl rfl)
  | [], _ :: _ => .inl rfl
  | _ :: _, [] => .inr (.inr rfl)
  | x :: xs, y :: ys => by
    unfold Go.Lib.compareBytes
    split
    · exact .inl rfl
    · split
      · exact .inr (.inr rfl)
      · exact cmp_range xs ys
theorem u8_tri {x y : UInt8} (h : ¬ x < y) (h' : ¬ y < x) : x = y := UInt8.le_antisymm (UInt8.not_lt.1 h') (UInt8.not_lt.1 h)
theorem cb_cons (x y : UInt8) (xs ys : List UInt8) : Go.Lib.compareBytes (x :: xs) (y :: ys) = if x < y then -1 else if y < x then 1 else Go.Lib.compareBytes xs ys := rfl
theorem cmp_neg : ∀ (a b : List UInt8), Go.Lib.compareBytes b a = - Go.Lib.compareBytes a b
  | [], [] => rfl
  | [], _ :: _ => rfl
  | _ :: _, [] => rfl
  | x :: xs, y :: ys => by
    rw [cb_cons, cb_cons]
    by_cases h : x < y
    · rw [if_pos h, if_neg (UInt8.lt_asymm h), if_pos h]; rfl
    · rw [if_neg h, if_neg h]
      by_cases h' : y < x
      · rw [if_pos h', if_pos h']
      · rw [if_neg h', if_neg h', cmp_neg xs ys]
theorem cmp_eq0 : ∀ (a b : List UInt8), Go.Lib.compareBytes a b = 0 ↔ a = b
  | [], [] => by simp [Go.Lib.compareBytes]
  | [], _ :: _ => by simp [Go.Lib.compareBytes]
  | _ :: _, [] => by simp [Go.Lib.compareBytes]
  | x :: xs, y :: ys => by
    rw [cb_cons]
    by_cases h : x < y
    · rw [if_pos h]
      refine ⟨fun h => absurd h (by decide), fun e => ?_⟩
      injection e with e _; subst e; exact absurd h (UInt8.lt_irrefl _)
    · rw [if_neg h]
      by_cases h' : y < x
      · rw [if_pos h']
        refine ⟨fun h => absurd h (by decide), fun e => ?_⟩
        injection e with e _; subst e; exact absurd h' (UInt8.lt_irrefl _)
      · rw [if_neg h', cmp_eq0 xs ys, u8_tri h h']; simp
theorem cmp_less : ∀ (a b : List UInt8), decide (Go.Lib.compareBytes a b < 0) = Op.bytesLess a b
  | [], [] => rfl
  | [], _ :: _ => rfl
  | _ :: _, [] => rfl
  | x :: xs, y :: ys => by
    rw [cb_cons]
    unfold Op.bytesLess
    by_cases h : x < y
    · simp [h]
    · rw [if_neg h]
      by_cases h' : y < x
      · rw [if_pos h']
        have : x ≠ y := fun e => by subst e; exact UInt8.lt_irrefl _ h'
        simp [h, this]
      · rw [if_neg h', cmp_less xs ys]
        have := u8_tri h h'
        subst this
        simp [h]
theorem cb_nc (y : UInt8) (ys : List UInt8) : Go.Lib.compareBytes [] (y :: ys) = -1 := rfl
theorem cb_cn (y : UInt8) (ys : List UInt8) : Go.Lib.compareBytes (y :: ys) [] = 1 := rfl
theorem cmp_trans : ∀ (a b c : List UInt8), Go.Lib.compareBytes a b ≤ 0 → Go.Lib.compareBytes b c ≤ 0 → Go.Lib.compareBytes a c ≤ 0 ∧ (Go.Lib.compareBytes a b < 0 ∨ Go.Lib.compareBytes b c < 0 → Go.Lib.compareBytes a c < 0)
  | [], [], c => fun _ h => ⟨h, fun h => h.elim (fun h => absurd h (by decide)) id⟩
  | [], _ :: _, [] => fun _ h => by rw [cb_cn] at h; exact absurd h (by decide)
  | [], _ :: _, _ :: _ => fun _ _ => by rw [cb_nc]; exact ⟨by decide, fun _ => by decide⟩
  | _ :: _, [], _ => fun h _ => by rw [cb_cn] at h; exact absurd h (by decide)
  | _ :: _, _ :: _, [] => fun _ h => by rw [cb_cn] at h; exact absurd h (by decide)
  | x :: xs, y :: ys, z :: zs => by
    rw [cb_cons, cb_cons, cb_cons]
    by_cases h1 : x < y
    · by_cases h2 : y < z
      · rw [if_pos h1, if_pos h2, if_pos (UInt8.lt_trans h1 h2)]; exact fun _ _ => ⟨by decide, fun _ => by decide⟩
      · rw [if_pos h1, if_neg h2]
        by_cases h3 : z < y
        · rw [if_pos h3]; exact fun _ h => absurd h (by decide)
        · have := u8_tri h2 h3; subst this
          rw [if_neg h3, if_pos h1]; exact fun _ _ => ⟨by decide, fun _ => by decide⟩
    · rw [if_neg h1]
      by_cases h3 : y < x
      · rw [if_pos h3]; exact fun h => absurd h (by decide)
      · have := u8_tri h1 h3; subst this
        rw [if_neg h3]
        by_cases h2 : x < z
        · rw [if_pos h2, if_pos h2]; exact fun _ _ => ⟨by decide, fun _ => by decide⟩
        · rw [if_neg h2]
          by_cases h4 : z < x
          · rw [if_pos h4]; exact fun _ h => absurd h (by decide)
          · rw [if_neg h4, if_neg h2, if_neg h4]; exact cmp_trans xs ys zs
/-! orders -/
structure IsCmp {α : Type} (c : α → α → Int) : Prop where
  range : ∀ a b, c a b = -1 ∨ c a b = 0 ∨ c a b = 1
  neg : ∀ a b, c b a = - c a b
  trans : ∀ a b d, c a b ≤ 0 → c b d ≤ 0 → c a d ≤ 0 ∧ (c a b < 0 ∨ c b d < 0 → c a d < 0)
def icmp (a b : Int) : Int := if a < b then -1 else if a > b then 1 else 0
theorem icmp_is : IsCmp icmp := by
  refine ⟨fun a b => ?_, fun a b => ?_, fun a b d => ?_⟩
  · unfold icmp; split <;> (try split) <;> simp
  · unfold icmp; (repeat' split) <;> omega
  · unfold icmp; (repeat' split) <;> omega
theorem IsCmp.by {α β : Type} {c : β → β → Int} (h : IsCmp c) (f : α → β) : IsCmp (fun a b => c (f a) (f b)) := ⟨fun _ _ => h.range _ _, fun _ _ => h.neg _ _, fun _ _ _ => h.trans _ _ _⟩
theorem bytes_is : IsCmp Go.Lib.compareBytes := ⟨cmp_range, cmp_neg, cmp_trans⟩
def orC {α : Type} (c d : α → α → Int) (a b : α) : Int := if c a b ≠ 0 then c a b else d a b
theorem IsCmp.or {α : Type} {c d : α → α → Int} (h : IsCmp c) (k : IsCmp d) : IsCmp (orC c d) := by
  refine ⟨fun a b => ?_, fun a b => ?_, fun x y z => ?_⟩
  · unfold orC; split
    · exact h.range a b
    · exact k.range a b
  · unfold orC
    rw [h.neg a b, k.neg a b]
    split <;> split <;> omega
  · have t := h.trans x y z
    have t' := h.trans z y x
    have u := k.trans x y z
    have n1 := h.neg x y; have n2 := h.neg y z; have n3 := h.neg x z
    unfold orC
    (repeat' split) <;> omega
theorem IsCmp.refl {α : Type} {c : α → α → Int} (h : IsCmp c) (a : α) : c a a = 0 := by have := h.neg a a; omega
def isB (l : List Int) : Prop := ∀ y ∈ l, 0 ≤ y ∧ y ≤ 255
theorem okA_isB {l : List Int} {n : Nat} (h : okA .u8 n l) : isB l := fun y hy => by
  have := h.2 y hy
  have e1 : IntKind.u8.min = 0 := rfl
  have e2 : IntKind.u8.max = 255 := rfl
  unfold okI at this
  omega
theorem rd_at (l : List Int) (i : Nat) (hi : i < l.length) : rd l (i : Int) = l[i] := by simp [rd, List.getD, hi]
theorem ar_at (l : List Int) (i : Nat) (hi : i < l.length) : ar l i = l[i] := by simp [ar, List.getD, hi]
theorem icmp_f (x y : Int) : cmp_Compare_int.f x y = some (icmp x y) := by
  unfold cmp_Compare_int.f cmp_isNaN_int.f icmp
  have e : ∀ z : Int, (z != z) = false := fun z => by simp
  simp only [e, Option.bind_some, Bool.false_eq_true, if_false, decide_eq_true_eq]
  split
  · rfl
  · split <;> rfl
theorem or2_f (k : Nat) (x y : Int) : cmp_Or_int.f (k + 3) [x, y] = some (if x ≠ 0 then x else y) := by
  unfold cmp_Or_int.f
  have h0 : rd [x, y] 0 = x := rfl
  have h1 : rd [x, y] 1 = y := rfl
  have w1 : IntKind.i64.wrap (0 + 1) = 1 := by decide
  have w2 : IntKind.i64.wrap (1 + 1) = 2 := by decide
  unfold cmp_Or_int.l0
  simp only [List.length_cons, List.length_nil, h0]
  by_cases hx : x = 0
  · subst hx
    unfold cmp_Or_int.l0
    simp only [w1, h1, List.length_cons, List.length_nil]
    by_cases hy : y = 0
    · subst hy
      unfold cmp_Or_int.l0
      simp [show IntKind.i64.wrap 2 = 2 from by decide]
    · simp [hy]
  · simp [hx]
def acmp (a b : S_api_Addr) : Int := orC (fun a b : S_api_Addr => icmp a.Size b.Size) (fun a b : S_api_Addr => Go.Lib.compareBytes (b2s (arL 16 a.B)) (b2s (arL 16 b.B))) a b
theorem acmp_is : IsCmp acmp := (icmp_is.by (fun a : S_api_Addr => a.Size)).or (bytes_is.by (fun a : S_api_Addr => b2s (arL 16 a.B)))
theorem acmp_f (k : Nat) (a b : S_api_Addr) : addr_Compare.f (k + 3) a b = some (acmp a b) := by
  unfold addr_Compare.f cursor_Order.f bytes_Compare.f
  rw [icmp_f]
  simp only [Option.bind_some, or2_f]
  unfold acmp orC
  rfl
theorem eqAd_iff {x y : S_api_Addr} (hx : okAb x = true) (hy : okAb y = true) : eqAd x y = true ↔ x = y := by
  simp only [okAb, Bool.and_eq_true, beq_iff_eq] at hx hy
  constructor
  · intro h
    simp only [eqAd, Bool.and_eq_true, beq_iff_eq, Bool.and_true] at h
    obtain ⟨h1, h2⟩ := h
    rw [eqA_iff] at h2
    have e : x.B = y.B := by
      apply List.ext_getElem (by rw [hx.1, hy.1])
      intro i q1 q2
      have := h2 i (by omega)
      rwa [ar_at _ _ q1, ar_at _ _ q2] at this
    cases x; cases y
    simp at h1 e
    rw [h1, e]
  · rintro rfl
    have : eqA 16 x.B x.B = true := by rw [eqA_iff]; intro i _; rfl
    simp [eqAd, this]
theorem okA_okAb {x : S_api_Addr} (h : okS_api_Addr x) : okAb x = true := by
  have h2 : okA .u8 16 x.B := h.2
  simp only [okAb, Bool.and_eq_true, beq_iff_eq, List.all_eq_true, decide_eq_true_eq]
  refine ⟨h2.1, fun y hy => ?_⟩
  have := okA_isB h2 y hy
  omega
def ltA (x y : S_api_Addr) : Prop := cmpA x y < 0
theorem ltA_irr (x : S_api_Addr) : ¬ ltA x x := by
  unfold ltA; rw [cmpA_lt]
  rintro (h | ⟨_, h⟩)
  · omega
  · exact List.lt_irrefl _ h
theorem ltA_tr (x y z : S_api_Addr) (h1 : ltA x y) (h2 : ltA y z) : ltA x z := by
  unfold ltA at *; rw [cmpA_lt] at *
  rcases h1 with h1 | ⟨e1, h1⟩ <;> rcases h2 with h2 | ⟨e2, h2⟩
  · exact .inl (by omega)
  · exact .inl (by omega)
  · exact .inl (by omega)
  · exact .inr ⟨e1.trans e2, List.lt_trans h1 h2⟩
theorem ltA_tot {x y : S_api_Addr} (hx : okAb x = true) (hy : okAb y = true) (h1 : ¬ ltA x y) (h2 : ¬ ltA y x) : x = y := by
  unfold ltA at h1 h2
  rw [cmpA_lt] at h1 h2
  simp only [not_or, not_and, List.not_lt] at h1 h2
  have es : x.Size = y.Size := by omega
  have eb := byA_inj hx hy (List.le_antisymm (h2.2 es.symm) (h1.2 es))
  cases x; cases y
  simp at es eb
  rw [es, eb]
theorem cmpA_0 {x y : S_api_Addr} (hx : okAb x = true) (hy : okAb y = true) : cmpA x y = 0 ↔ x = y := by
  constructor
  · intro h
    rcases Int.lt_trichotomy x.Size y.Size with q | q | q
    · simp [cmpA, sgnI, q] at h
    · have h' : Go.Lib.compareBytes (b2s (arL 16 x.B)) (b2s (arL 16 y.B)) = 0 := by simpa [cmpA, sgnI, q] using h
      have eb := byA_inj hx hy ((cmp_eq0 _ _).1 h')
      cases x; cases y
      simp at q eb
      rw [q, eb]
    · have q2 : ¬ x.Size < y.Size := by omega
      simp [cmpA, sgnI, q, q2] at h
  · rintro rfl
    unfold cmpA sgnI
    simp
    exact (cmp_eq0 _ _).2 rfl
def allA (l : List S_api_Addr) : Prop := ∀ x ∈ l, okAb x = true
theorem ddA_spec (zs : List S_api_Addr) (hv : allA zs) (hs : zs.Pairwise (fun x y => ltA x y ∨ x = y)) : (ddA zs zs.length).Pairwise ltA ∧ ∀ y, y ∈ ddA zs zs.length ↔ y ∈ zs := by
  have gD : ∀ i (h : i < zs.length), zs.getD i zA = zs[i] := fun i h => by rw [List.getD_eq_getElem?_getD, List.getElem?_eq_getElem h]; rfl
  have key := dd_gen (lt := ltA) ltA_irr ltA_tr zs hs (fun m => ddA zs m) (by simp [ddA]) ?_ ?_ zs.length (Nat.le_refl _)
  · rw [List.take_length] at key; exact key
  · intro m h hm
    have hk : keepA zs m = true := by
      unfold keepA
      by_cases h0 : m = 0
      · simp [h0]
      · have h1 : m - 1 < zs.length := by omega
        rw [gD m h, gD (m - 1) h1]
        have hne : zs[m] ≠ zs[m - 1] := by
          rcases hm with hm | hm
          · exact absurd hm h0
          · rw [List.getElem?_eq_getElem h, List.getElem?_eq_getElem h1] at hm
            exact fun e => hm (by rw [e])
        have : eqAd zs[m] zs[m - 1] = false := by
          cases hq : eqAd zs[m] zs[m - 1]
          · rfl
          · exact absurd ((eqAd_iff (hv _ (List.getElem_mem _)) (hv _ (List.getElem_mem _))).1 hq) hne
        rw [this]; simp
    show ddA zs (m + 1) = _
    rw [ddA_succ, if_pos hk, gD m h]
  · intro m h h0 hm
    have h1 : m - 1 < zs.length := by omega
    rw [List.getElem?_eq_getElem h, List.getElem?_eq_getElem h1] at hm
    have hk : keepA zs m = false := by
      unfold keepA
      rw [gD m h, gD (m - 1) h1, (eqAd_iff (hv _ (List.getElem_mem _)) (hv _ (List.getElem_mem _))).2 (Option.some.inj hm)]
      simp [h0]
    show ddA zs (m + 1) = _
    rw [ddA_succ, hk]; simp
theorem leA_iff {x y : S_api_Addr} (hx : okAb x = true) (hy : okAb y = true) : leA x y = true ↔ ltA x y ∨ x = y := by
  simp only [leA, Bool.not_eq_true', decide_eq_false_iff_not]
  constructor
  · intro h
    by_cases hl : ltA x y
    · exact .inl hl
    · exact .inr (ltA_tot hx hy hl h)
  · rintro (h | rfl)
    · exact fun h2 => ltA_irr _ (ltA_tr _ _ _ h h2)
    · exact ltA_irr _
theorem sortA_rise (l : List S_api_Addr) (hv : allA l) : (l.mergeSort leA).Pairwise (fun x y => ltA x y ∨ x = y) := by
  have h := List.pairwise_mergeSort (le := leA) (fun a b c h1 h2 => by
    simp only [leA, Bool.not_eq_true', decide_eq_false_iff_not] at *
    have e1 := sk_swo.ntrans
    rw [cmpA_lt] at *
    simp only [not_or, not_and, List.not_lt] at *
    obtain ⟨a1, b1⟩ := h1
    obtain ⟨a2, b2⟩ := h2
    exact ⟨by omega, fun e => List.le_trans (b1 (by omega)) (b2 (by omega))⟩) (fun a b => by
    rw [Bool.or_eq_true]
    simp only [leA, Bool.not_eq_true', decide_eq_false_iff_not]
    by_cases h : ltA b a
    · exact .inr fun h2 => ltA_irr _ (ltA_tr _ _ _ h h2)
    · exact .inl h) l
  have hm : ∀ x ∈ l.mergeSort leA, okAb x = true := fun x hx => hv x ((List.mergeSort_perm l leA).mem_iff.1 hx)
  exact h.imp_of_mem fun {a b} ha hb hab => (leA_iff (hm a ha) (hm b hb)).1 hab
def grB (j : S_api_Join) (n : List UInt8) : Bool := j.Vrf == n && j.Source.Size == 0
def gG (l : List S_api_Join) (n : List UInt8) : List S_api_Addr := (l.filter (grB · n)).map (·.Group)
theorem grB_f (j : S_api_Join) (n : List UInt8) : joins_Groups_1.f j n = some (grB j n) := by
  unfold joins_Groups_1.f grB
  simp only [bstrL]
  by_cases h1 : j.Vrf = n <;> simp [h1]
theorem gathG_l0 (l : List S_api_Join) (f : List UInt8) (hl : l.length ≤ 1000) : ∀ (n kk i : Nat) (x8 : List S_api_Addr), i + n = l.length → n < kk → x8.length ≤ i → api_Addr_joins_Groups_1_joins_Groups_2_addr_Compare.l0 l f kk x8 (i : Int) = some (x8 ++ gG (l.drop i) f)
  | 0, kk + 1, i, x8, hi, _, _ => by
    rw [api_Addr_joins_Groups_1_joins_Groups_2_addr_Compare.l0, if_neg (by simp; omega), List.drop_eq_nil_of_le (by omega)]
    simp [gG]
  | n + 1, kk + 1, i, x8, hi, hk, hx => by
    have hil : i < l.length := by omega
    have ed : l.drop i = l[i] :: l.drop (i + 1) := List.drop_eq_getElem_cons hil
    rw [api_Addr_joins_Groups_1_joins_Groups_2_addr_Compare.l0, if_pos (by simp; omega), if_pos (by omega), rdA l i hil, grB_f, Option.bind_some, wrapS i (by omega)]
    unfold gG
    rw [ed, List.filter_cons]
    by_cases h : grB l[i] f = true
    · rw [if_pos h, if_pos h]
      show (some l[i].Group).bind _ = _
      rw [Option.bind_some, if_pos (by simp; omega), gathG_l0 l f hl n kk (i + 1) _ (by omega) (by omega) (by simp; omega)]
      simp [gG]
    · rw [if_neg h, if_neg h, gathG_l0 l f hl n kk (i + 1) _ (by omega) (by omega) (by omega)]
      rfl
def grc (l : List S_api_Join) (n : List UInt8) : List S_api_Addr := ddA ((gG l n).mergeSort leA) (gG l n).length
def allJ (l : List S_api_Join) : Prop := ∀ j ∈ l, okAb j.Group = true
theorem gG_v {l : List S_api_Join} (h : allJ l) (n : List UInt8) : allA (gG l n) := by
  intro x hx
  simp only [gG, List.mem_map, List.mem_filter] at hx
  obtain ⟨j, ⟨hj, _⟩, rfl⟩ := hx
  exact h j hj
theorem groups_f (k : Nat) (l : List S_api_Join) (n : List UInt8) (hv : allJ l) (hl : l.length ≤ 1000) (hk : l.length < k) : joins_Groups.f k l n = some (grc l n) := by
  have h := gathG_l0 l n hl l.length k 0 [] (by omega) (by omega) (Nat.le_refl _)
  have hlen : (gG l n).length ≤ l.length := by unfold gG; rw [List.length_map]; exact List.length_filter_le _ _
  unfold joins_Groups.f api_Addr_joins_Groups_1_joins_Groups_2_addr_Compare.f
  rw [show (0 : Int) = ((0 : Nat) : Int) from rfl, h, List.nil_append, List.drop_zero, Option.bind_some]
  unfold slices_SortA.f
  rw [if_pos ⟨by omega, List.all_eq_true.2 (gG_v hv n)⟩, Option.bind_some]
  unfold slices_CompA.f
  rw [if_pos (by rw [List.length_mergeSort]; omega), List.length_mergeSort]
  rfl
theorem grc_spec (l : List S_api_Join) (n : List UInt8) (hv : allJ l) : (grc l n).Pairwise ltA ∧ ∀ y, y ∈ grc l n ↔ y ∈ gG l n := by
  have hm : allA ((gG l n).mergeSort leA) := fun x hx => gG_v hv n x ((List.mergeSort_perm _ _).mem_iff.1 hx)
  have h := ddA_spec _ hm (sortA_rise (gG l n) (gG_v hv n))
  rw [List.length_mergeSort] at h
  exact ⟨h.1, fun y => (h.2 y).trans (List.mergeSort_perm _ _).mem_iff⟩
def smG : S_api_Addr := ⟨4, [224, 0, 0, 1, 0, 0, 0, 0, 0, 0, 0, 0, 0, 0, 0, 0]⟩
def smS (b : Int) : S_api_Addr := ⟨4, [10, 1, 0, b, 0, 0, 0, 0, 0, 0, 0, 0, 0, 0, 0, 0]⟩
def smX : S_api_Join := ⟨[97], [120], smS 1, smG⟩
def smY : S_api_Join := ⟨[97], [121], ⟨0, List.replicate 16 0⟩, smG⟩
def smZ : S_api_Join := ⟨[97], [88], ⟨0, List.replicate 16 0⟩, smG⟩
theorem ifc_is {l : List S_api_Join} {f : S_api_Flow} {r : List (List UInt8)} (h : r.Pairwise (· < ·)) (hm : ∀ y, y ∈ r ↔ y ∈ gS l f) : ifc l f = r :=
  rows_unique (lt := fun x y : List UInt8 => x < y) (fun x => List.lt_irrefl x) (fun x y z => List.lt_trans) (ifc_spec l f).1 h (fun y => ((ifc_spec l f).2 y).trans (hm y).symm)
theorem grc_is {l : List S_api_Join} {n : List UInt8} (hv : allJ l) {r : List S_api_Addr} (h : r.Pairwise ltA) (hm : ∀ y, y ∈ r ↔ y ∈ gG l n) : grc l n = r :=
  rows_unique (lt := ltA) ltA_irr ltA_tr (grc_spec l n hv).1 h (fun y => ((grc_spec l n hv).2 y).trans (hm y).symm)
theorem sm_a1 (k : Nat) : Jn_Add.f (k + 60) ⟨[]⟩ smX = some (0, ⟨[smX]⟩) := by kernel_rfl
theorem sm_a2 (k : Nat) : Jn_Add.f (k + 60) ⟨[smX]⟩ smY = some (0, ⟨[smY, smX]⟩) := by kernel_rfl
theorem sm_a3 (k : Nat) : Jn_Add.f (k + 60) ⟨[smY, smX]⟩ smZ = some (1, ⟨[smY, smX]⟩) := by kernel_rfl
theorem sm_i1 : ifc [smY, smX] ⟨[97], smS 1, smG⟩ = [[120], [121]] := ifc_is (by decide) (fun y => by
    have : gS [smY, smX] ⟨[97], smS 1, smG⟩ = [[121], [120]] := by decide
    rw [this]; simp; exact Or.comm)
theorem sm_i2 : ifc [smY, smX] ⟨[97], smS 2, smG⟩ = [[121]] := ifc_is (by decide) (fun y => by
    have : gS [smY, smX] ⟨[97], smS 2, smG⟩ = [[121]] := by decide
    rw [this])
theorem sm_v : allJ [smY, smX] := by
    intro j hj
    simp at hj
    rcases hj with rfl | rfl <;> decide
theorem sm_g1 : grc [smY, smX] [97] = [smG] := grc_is sm_v (List.pairwise_singleton _ _) (fun y => by
    have : gG [smY, smX] [97] = [smG] := by decide
    rw [this])
theorem small20 (k : Nat) : vinerylaw20_small.f (k + 60) = some true := by
  have f1 := ifaces_f (k + 60) [smY, smX] ⟨[97], smS 1, smG⟩ (by decide) (by simp)
  have f2 := ifaces_f (k + 60) [smY, smX] ⟨[97], smS 2, smG⟩ (by decide) (by simp)
  have f3 := groups_f (k + 60) [smY, smX] [97] sm_v (by decide) (by simp)
  rw [sm_i1] at f1; rw [sm_i2] at f2; rw [sm_g1] at f3
  have n0 : Jn_New.f = some ⟨[]⟩ := rfl
  have o1 : vinerylaw20_Of.f [120] 1 1 = some smX := rfl
  have o2 : vinerylaw20_Of.f [121] 0 1 = some smY := rfl
  have o3 : vinerylaw20_Of.f [88] 0 1 = some smZ := rfl
  have v1 : vinerylaw07_V4.f 10 1 0 1 = some (smS 1) := rfl
  have v2 : vinerylaw07_V4.f 10 1 0 2 = some (smS 2) := rfl
  have v3 : vinerylaw07_V4.f 224 0 0 1 = some smG := rfl
  have al : Jn_All.f ⟨[smY, smX]⟩ = some [smY, smX] := rfl
  unfold vinerylaw20_small.f
  simp only [n0, o1, o2, o3, v1, v2, v3, al, Option.bind_some, sm_a1, sm_a2, sm_a3, f1, f2, f3]
  simp [bstrL, rd]
/-! trimming zeros -/
theorem tr_nil (k : Nat) : bytes_trimRightByte.l0 0 (k + 1) [] = some [] := by unfold bytes_trimRightByte.l0; simp
theorem tr_snoc (k : Nat) (y : List Int) (c : Int) (h : y.length ≤ 100) : bytes_trimRightByte.l0 0 (k + 1) (y ++ [c]) = if c = 0 then bytes_trimRightByte.l0 0 k y else some (y ++ [c]) := by
  rw [bytes_trimRightByte.l0]
  have hl : (y ++ [c]).length = y.length + 1 := by simp
  have e : IntKind.i64.wrap (((y ++ [c]).length : Int) - 1) = (y.length : Int) := by rw [hl, IntKind.wrap_i64]; omega
  have er : rd (y ++ [c]) (y.length : Int) = c := by rw [rd_at _ _ (by simp)]; simp
  rw [e, er, if_pos (by simp <;> omega), if_pos (by rw [hl]; omega), Option.bind_some]
  by_cases hc : c = 0
  · rw [if_pos (by simpa using hc), if_pos (by rw [hl]; simp <;> omega), if_pos hc]
    simp
  · rw [if_neg (by simpa using hc), if_neg hc]
theorem tr_ok : ∀ (n k : Nat) (x : List Int), x.length = n → n < k → n ≤ 100 → ∃ r, bytes_trimRightByte.l0 0 k x = some r ∧ r.length ≤ x.length ∧ r.all (· == 0) = x.all (· == 0)
  | 0, k, x, h, hk, _ => by
    obtain ⟨k, rfl⟩ : ∃ k', k = k' + 1 := ⟨k - 1, by omega⟩
    obtain rfl := List.eq_nil_of_length_eq_zero h
    exact ⟨[], tr_nil k, Nat.le_refl _, rfl⟩
  | n + 1, k, x, h, hk, hn => by
    obtain ⟨k, rfl⟩ : ∃ k', k = k' + 1 := ⟨k - 1, by omega⟩
    have hne : x ≠ [] := by intro e; subst e; simp at h
    have hx : x = x.dropLast ++ [x.getLast hne] := (List.dropLast_concat_getLast hne).symm
    have hd : x.dropLast.length = n := by simp [h]
    generalize x.dropLast = y at hx hd
    generalize x.getLast hne = c at hx
    subst hx
    rw [tr_snoc k y c (by omega)]
    by_cases hc : c = 0
    · obtain ⟨r, h1, h2, h3⟩ := tr_ok n k y hd (by omega) (by omega)
      exact ⟨r, by rw [if_pos hc]; exact h1, by simp; omega, by rw [h3]; simp [hc]⟩
    · exact ⟨_, if_neg hc, Nat.le_refl _, rfl⟩
theorem tl_nil (k : Nat) : bytes_trimLeftByte.l0 0 (k + 1) [] = some [] := by unfold bytes_trimLeftByte.l0; simp
theorem tl_cons (k : Nat) (y : List Int) (c : Int) : bytes_trimLeftByte.l0 0 (k + 1) (c :: y) = if c = 0 then bytes_trimLeftByte.l0 0 k y else some (c :: y) := by
  rw [bytes_trimLeftByte.l0]
  have er : rd (c :: y) 0 = c := rfl
  rw [er, if_pos (by simp <;> omega), if_pos (by simp <;> omega), Option.bind_some]
  by_cases hc : c = 0
  · rw [if_pos (by simpa using hc), if_pos (by simp <;> omega), if_pos hc]
    simp
  · rw [if_neg (by simpa using hc), if_neg hc]
theorem tl_ok : ∀ (x : List Int) (k : Nat), x.length < k → ∃ r, bytes_trimLeftByte.l0 0 k x = some r ∧ (((r.length : Int) == 0) = x.all (· == 0))
  | [], k, hk => by
    obtain ⟨k, rfl⟩ : ∃ k', k = k' + 1 := ⟨k - 1, by omega⟩
    exact ⟨[], tl_nil k, rfl⟩
  | c :: y, k, hk => by
    obtain ⟨k, rfl⟩ : ∃ k', k = k' + 1 := ⟨k - 1, by omega⟩
    rw [tl_cons]
    by_cases hc : c = 0
    · obtain ⟨r, h1, h2⟩ := tl_ok y k (by simp at hk; omega)
      exact ⟨r, by rw [if_pos hc]; exact h1, by rw [h2]; simp [hc]⟩
    · refine ⟨_, if_neg hc, ?_⟩
      have : (c == 0) = false := by simpa using hc
      simp only [List.all_cons, this, Bool.false_and]
      simp
      omega
theorem trim_ok (k : Nat) (x : List Int) (hx : x.length ≤ 16) : ∃ r, bytes_Trim.f (k + 20) x [0] = some r ∧ (((r.length : Int) == 0) = x.all (· == 0)) := by
  by_cases h0 : x.length = 0
  · obtain rfl := List.eq_nil_of_length_eq_zero h0
    exact ⟨[], rfl, rfl⟩
  · obtain ⟨r, h1, h2, h3⟩ := tr_ok x.length (k + 20) x rfl (by omega) (by omega)
    obtain ⟨r', h4, h5⟩ := tl_ok r (k + 20) (by omega)
    have e : bytes_Trim.f (k + 20) x [0] = (bytes_trimRightByte.f (k + 20) x 0).bind fun t21 => (bytes_trimLeftByte.f (k + 20) t21 0).bind fun t24 => some t24 := by
      unfold bytes_Trim.f
      have hs : (((bstr ([0] : List UInt8)).size : Int) == (1 : Int)) = true := rfl
      have ez : ((([0] : List UInt8).getD (Int.toNat (0 : Int)) 0).toNat : Int) = 0 := rfl
      rw [if_neg (by simpa using h0), if_neg (by rw [bstr_toList, bstr_toList]; decide), if_pos hs, ez, if_pos (by decide), Option.bind_some, if_pos (by decide), if_pos (by decide), if_pos (by decide)]
    rw [e]
    unfold bytes_trimRightByte.f bytes_trimLeftByte.f
    rw [h1, Option.bind_some, Option.bind_some, h4, Option.bind_some]
    by_cases hr : r'.length = 0
    · obtain rfl := List.eq_nil_of_length_eq_zero hr
      exact ⟨[], rfl, by rw [← h3, ← h5]⟩
    · rw [if_neg (by simpa using hr)]
      exact ⟨r', rfl, by rw [h5, h3]⟩
/-! addresses -/
def isSz (n : Int) : Bool := n == 0 || n == 4 || n == 16
def rightB (a : S_api_Addr) : Bool := isSz a.Size && ((arL 16 a.B).drop a.Size.toNat).all (· == 0)
theorem right_go (k : Nat) (a : S_api_Addr) (h : a.Size = 0 ∨ a.Size = 4 ∨ a.Size = 16) : addr_Right.f (k + 20) a = some (((arL 16 a.B).drop a.Size.toNat).all (· == 0)) := by
  have h16 : (arL 16 a.B).length = 16 := arL_length _ _
  have ht : (arL 16 a.B).take (Int.toNat 16) = arL 16 a.B := by rw [List.take_of_length_le]; rw [h16]; exact Nat.le_refl _
  obtain ⟨r, h1, h2⟩ := trim_ok k ((arL 16 a.B).drop a.Size.toNat) (by rw [List.length_drop, h16]; omega)
  have hc : (if (a.Size == (0 : Int)) = true then some (a.Size == (0 : Int) : Bool) else (if (a.Size == (4 : Int)) = true then some (a.Size == (4 : Int) : Bool) else some (a.Size == (16 : Int) : Bool))) = some true := by
    rcases h with h | h | h <;> simp [h]
  unfold addr_Right.f
  rw [ht, hc, Option.bind_some, if_pos rfl, if_pos (by omega), h1, Option.bind_some, h2]
theorem right_ok (k : Nat) (a : S_api_Addr) : addr_Right.f (k + 20) a = some (rightB a) := by
  by_cases h : a.Size = 0 ∨ a.Size = 4 ∨ a.Size = 16
  · rw [right_go k a h]
    have : isSz a.Size = true := by unfold isSz; simp; omega
    unfold rightB
    rw [this, Bool.true_and]
  · have h0 : ¬ a.Size = 0 := by omega
    have h4 : ¬ a.Size = 4 := by omega
    have h16 : ¬ a.Size = 16 := by omega
    unfold addr_Right.f rightB isSz
    simp [h0, h4, h16]
def mcastB (a : S_api_Addr) : Bool := rightB a && (if a.Size = 4 then Int.fdiv (ar a.B 0) (2 ^ (min (4 : Int).toNat IntKind.u8.bits)) == 14 else a.Size == 16 && ar a.B 0 == 255)
theorem mcast_ok (k : Nat) (a : S_api_Addr) : addr_Multicast.f (k + 20) a = some (mcastB a) := by
  unfold addr_Multicast.f mcastB
  rw [right_ok, Option.bind_some]
  cases rightB a
  · rfl
  · simp only [Bool.not_true, Bool.false_eq_true, if_false, Bool.true_and]
    by_cases h4 : a.Size = 4
    · simp [h4]
    · by_cases h16 : a.Size = 16
      · simp [h16]
      · simp [h4, h16]
theorem scmp_f (a b : List UInt8) : cmp_Compare_string.f a b = some (Go.Lib.compareBytes a b) := by
  unfold cmp_Compare_string.f cmp_isNaN_string.f
  simp only [bstrL, bne_self_eq_false, beq_self_eq_true, Bool.not_true, Option.bind_some, Bool.false_eq_true, if_false, ← cmp_less, decide_eq_true_eq]
  have h0 := cmp_eq0 a b
  rcases cmp_range a b with h | h | h
  · rw [h]; simp
  · have := h0.1 h
    subst this
    rw [h]; simp
  · have hne : ¬ a = b := fun e => by rw [h0.2 e] at h; cases h
    rw [h]; simp [hne]
theorem or4_f (k : Nat) (x y z u : Int) : cmp_Or_int.f (k + 5) [x, y, z, u] = some (if x ≠ 0 then x else if y ≠ 0 then y else if z ≠ 0 then z else u) := by
  unfold cmp_Or_int.f
  have h0 : rd [x, y, z, u] 0 = x := rfl
  have h1 : rd [x, y, z, u] 1 = y := rfl
  have h2 : rd [x, y, z, u] 2 = z := rfl
  have h3 : rd [x, y, z, u] 3 = u := rfl
  have w1 : IntKind.i64.wrap (0 + 1) = 1 := by decide
  have w2 : IntKind.i64.wrap (1 + 1) = 2 := by decide
  have w3 : IntKind.i64.wrap (2 + 1) = 3 := by decide
  have w4 : IntKind.i64.wrap (3 + 1) = 4 := by decide
  unfold cmp_Or_int.l0
  simp only [List.length_cons, List.length_nil, h0]
  by_cases hx : x = 0
  · unfold cmp_Or_int.l0
    simp only [w1, h1, List.length_cons, List.length_nil]
    by_cases hy : y = 0
    · unfold cmp_Or_int.l0
      simp only [w2, h2, List.length_cons, List.length_nil]
      by_cases hz : z = 0
      · unfold cmp_Or_int.l0
        simp only [w3, h3, List.length_cons, List.length_nil]
        by_cases hu : u = 0
        · unfold cmp_Or_int.l0
          simp [show IntKind.i64.wrap 4 = 4 from by decide, hx, hy, hz, hu]
        · simp [hx, hy, hz, hu]
      · simp [hx, hy, hz]
    · simp [hx, hy]
  · simp [hx]
def jcmp (a b : S_api_Join) : Int := orC (fun a b : S_api_Join => Go.Lib.compareBytes a.Vrf b.Vrf) (orC (fun a b : S_api_Join => acmp a.Group b.Group) (orC (fun a b : S_api_Join => acmp a.Source b.Source) (fun a b : S_api_Join => Go.Lib.compareBytes a.Iface b.Iface))) a b
theorem jcmp_is : IsCmp jcmp := (bytes_is.by (fun j : S_api_Join => j.Vrf)).or ((acmp_is.by (fun j : S_api_Join => j.Group)).or ((acmp_is.by (fun j : S_api_Join => j.Source)).or (bytes_is.by (fun j : S_api_Join => j.Iface))))
theorem jcmp_f (k : Nat) (a b : S_api_Join) : joins_Compare.f (k + 5) a b = some (jcmp a b) := by
  unfold joins_Compare.f
  rw [scmp_f, Option.bind_some, acmp_f (k + 2), Option.bind_some, acmp_f (k + 2), Option.bind_some, scmp_f, Option.bind_some, or4_f]
  rfl
def okJ (j : S_api_Join) : Prop := okAb j.Group = true ∧ okAb j.Source = true
theorem okS_okJ {j : S_api_Join} (h : okS_api_Join j) : okJ j := ⟨okA_okAb h.2.2.2, okA_okAb h.2.2.1⟩
theorem acmp_0 {x y : S_api_Addr} (hx : okAb x = true) (hy : okAb y = true) : acmp x y = 0 ↔ x = y := cmpA_0 hx hy
theorem jcmp_0 {a b : S_api_Join} (ha : okJ a) (hb : okJ b) : jcmp a b = 0 ↔ a = b := by
  constructor
  · intro h
    unfold jcmp orC at h
    by_cases h1 : Go.Lib.compareBytes a.Vrf b.Vrf = 0
    · rw [if_neg (by simpa using h1)] at h
      by_cases h2 : acmp a.Group b.Group = 0
      · rw [if_neg (by simpa using h2)] at h
        by_cases h3 : acmp a.Source b.Source = 0
        · rw [if_neg (by simpa using h3)] at h
          have e1 := (cmp_eq0 _ _).1 h1
          have e2 := (acmp_0 ha.1 hb.1).1 h2
          have e3 := (acmp_0 ha.2 hb.2).1 h3
          have e4 := (cmp_eq0 _ _).1 h
          cases a; cases b
          simp at e1 e2 e3 e4
          rw [e1, e2, e3, e4]
        · rw [if_pos (by simpa using h3)] at h; exact absurd h h3
      · rw [if_pos (by simpa using h2)] at h; exact absurd h h2
    · rw [if_pos (by simpa using h1)] at h; exact absurd h h1
  · rintro rfl
    exact jcmp_is.refl a
theorem eqJ_iff {a b : S_api_Join} (ha : okJ a) (hb : okJ b) : (((bstr a.Vrf).toList == (bstr b.Vrf).toList) && (((bstr a.Iface).toList == (bstr b.Iface).toList) && (((a.Source.Size == b.Source.Size) && ((eqA 16 a.Source.B b.Source.B) && true)) && (((a.Group.Size == b.Group.Size) && ((eqA 16 a.Group.B b.Group.B) && true)) && true)))) = decide (a = b) := by
  rw [Bool.eq_iff_iff]
  simp only [bstrL]
  have s1 := eqAd_iff ha.2 hb.2
  have s2 := eqAd_iff ha.1 hb.1
  unfold eqAd at s1 s2
  have key : ∀ p q r s : Bool, (p && (q && (r && (s && true)))) = true ↔ p = true ∧ q = true ∧ r = true ∧ s = true := by decide
  rw [key, s1, s2, decide_eq_true_eq, beq_iff_eq, beq_iff_eq]
  constructor
  · rintro ⟨e1, e2, e3, e4⟩
    cases a; cases b
    simp at e1 e2 e3 e4
    rw [e1, e2, e3, e4]
  · rintro rfl
    exact ⟨rfl, rfl, rfl, rfl⟩
theorem named_f (s : List UInt8) : ∃ b, joins_named.f s = some b := by
  unfold joins_named.f
  by_cases h1 : (!((bstr s).toList == (bstr ([] : List UInt8)).toList)) = true
  · rw [if_pos h1]
    by_cases h2 : (decide (((bstr s).size : Int) ≤ (8 : Int))) = true
    · rw [if_pos h2]
      unfold strings_Trim.f
      have h3 : s.length ≤ 8 := by
        have := of_decide_eq_true h2
        have e : (bstr s).size = s.length := by simp [bstr, ByteArray.size]
        omega
      rw [if_pos ⟨by omega, by decide, by decide⟩]
      exact ⟨_, rfl⟩
    · rw [if_neg h2]; exact ⟨_, rfl⟩
  · rw [if_neg h1]; exact ⟨_, rfl⟩
theorem rightJ_f (k : Nat) (j : S_api_Join) : ∃ b, joins_Right.f (k + 20) j = some b := by
  unfold joins_Right.f
  obtain ⟨b1, e1⟩ := named_f j.Vrf
  obtain ⟨b2, e2⟩ := named_f j.Iface
  rw [e1, Option.bind_some, e2, mcast_ok, right_ok, mcast_ok]
  simp only [Option.bind_some]
  cases b1 <;> cases b2 <;> cases mcastB j.Group <;> cases rightB j.Source <;> cases mcastB j.Source <;> (try simp only [Bool.not_false, Bool.not_true, if_true, Bool.false_eq_true, if_false, Option.bind_some]) <;> (repeat' split) <;> exact ⟨_, rfl⟩
structure Inv (K : Nat) (xs : List S_api_Join) : Prop where
  rise : xs.Pairwise (fun a b => jcmp a b < 0)
  ok : ∀ x ∈ xs, okJ x
  right : ∀ x ∈ xs, joins_Right.f K x = some true
  len : xs.length ≤ 32
theorem place_l0 (K : Nat) (xs : List S_api_Join) (j : S_api_Join) (hx : ∀ x ∈ xs, okJ x) (hj : okJ j) (hl : xs.length ≤ 32) : ∀ (n kk i : Nat), i + n = xs.length → n < kk → (∀ q (h : q < xs.length), q < i → jcmp xs[q] j < 0) →
    (∃ (p : Nat) (h : p < xs.length), joins_Joins_place.l0 (K + 5) ⟨xs⟩ j kk (i : Int) (i : Int) = some (.inl ((p : Int), true)) ∧ xs[p] = j) ∨
    (∃ p : Nat, joins_Joins_place.l0 (K + 5) ⟨xs⟩ j kk (i : Int) (i : Int) = some (.inr (p : Int)) ∧ p ≤ xs.length ∧ (∀ q (h : q < xs.length), q < p → jcmp xs[q] j < 0) ∧ (∀ h : p < xs.length, jcmp xs[p] j > 0))
  | 0, kk + 1, i, hi, _, h => .inr ⟨i, by rw [joins_Joins_place.l0, if_neg (by simp; omega)], by omega, h, fun hh => by omega⟩
  | n + 1, kk + 1, i, hi, hk, h => by
    have hil : i < xs.length := by omega
    have hxi : okJ xs[i] := hx _ (List.getElem_mem _)
    rw [joins_Joins_place.l0, if_pos (by simp; omega), if_pos (by simp; omega), rdA xs i hil, jcmp_f, Option.bind_some, eqJ_iff hxi hj, wrapS i (by omega)]
    by_cases h1 : jcmp xs[i] j > 0
    · rw [if_pos (decide_eq_true h1)]
      exact .inr ⟨i, rfl, by omega, h, fun _ => h1⟩
    · rw [if_neg (by simpa using h1)]
      by_cases h2 : xs[i] = j
      · rw [if_pos (decide_eq_true h2)]
        exact .inl ⟨i, hil, rfl, h2⟩
      · rw [if_neg (by simpa using h2)]
        refine place_l0 K xs j hx hj hl n kk (i + 1) (by omega) (by omega) fun q hq hqi => ?_
        by_cases e : q = i
        · subst e
          have : jcmp xs[q] j ≠ 0 := fun e0 => h2 ((jcmp_0 hxi hj).1 e0)
          omega
        · exact h q hq (by omega)
theorem place_f (K : Nat) (xs : List S_api_Join) (j : S_api_Join) (hx : ∀ x ∈ xs, okJ x) (hj : okJ j) (hl : xs.length ≤ 32) (hk : 32 < K) :
    (∃ (p : Nat) (h : p < xs.length), joins_Joins_place.f (K + 5) ⟨xs⟩ j = some ((p : Int), true) ∧ xs[p] = j) ∨
    (∃ p : Nat, joins_Joins_place.f (K + 5) ⟨xs⟩ j = some ((p : Int), false) ∧ p ≤ xs.length ∧ (∀ q (h : q < xs.length), q < p → jcmp xs[q] j < 0) ∧ (∀ h : p < xs.length, jcmp xs[p] j > 0)) := by
  unfold joins_Joins_place.f
  rcases place_l0 K xs j hx hj hl xs.length (K + 5) 0 (by omega) (by omega) (fun q _ h => by omega) with ⟨p, h, e, e2⟩ | ⟨p, e, r⟩
  · exact .inl ⟨p, h, by rw [show (0 : Int) = ((0 : Nat) : Int) from rfl, e]; rfl, e2⟩
  · exact .inr ⟨p, by rw [show (0 : Int) = ((0 : Nat) : Int) from rfl, e]; rfl, r⟩
theorem jtrans (x y z : S_api_Join) (h1 : jcmp x y < 0) (h2 : jcmp y z < 0) : jcmp x z < 0 := (jcmp_is.trans x y z (by omega) (by omega)).2 (.inl h1)
theorem jirr (x : S_api_Join) : ¬ jcmp x x < 0 := by have := jcmp_is.refl x; omega
theorem add_f (K : Nat) (hk : 32 < K) (xs : List S_api_Join) (hi : Inv (K + 20) xs) (j : S_api_Join) (hj : okJ j) : ∃ r ys, Jn_Add.f (K + 20) ⟨xs⟩ j = some (r, ⟨ys⟩) ∧ Inv (K + 20) ys ∧
    (r = 0 → ∀ y, y ∈ ys ↔ y = j ∨ y ∈ xs) ∧ (r ≠ 0 → ys = xs) := by
  unfold Jn_Add.f
  obtain ⟨b, eb⟩ := rightJ_f K j
  rw [eb, Option.bind_some]
  cases b with
  | false => exact ⟨1, xs, by simp, hi, fun h => by simp at h, fun _ => rfl⟩
  | true =>
    rw [if_pos rfl]
    rcases place_f (K + 15) xs j hi.ok hj hi.len (by omega) with ⟨p, h, e, e2⟩ | ⟨p, e, p1, p2, p3⟩
    · rw [show K + 20 = K + 15 + 5 by omega, e, Option.bind_some, if_pos rfl]
      refine ⟨0, xs, rfl, hi, fun _ y => ⟨.inr, fun h => h.elim (fun e => ?_) id⟩, fun _ => rfl⟩
      rw [e, ← e2]; exact List.getElem_mem _
    · rw [show K + 20 = K + 15 + 5 by omega, e, Option.bind_some, if_neg (by simp)]
      by_cases h32 : (decide ((xs.length : Int) ≥ (32 : Int))) = true
      · rw [if_pos h32]
        exact ⟨6, xs, rfl, hi, fun h => by simp at h, fun _ => rfl⟩
      · rw [if_neg h32, if_pos (by simp; omega)]
        have hlen : xs.length < 32 := by
          have := of_decide_eq_false (Bool.not_eq_true _ ▸ h32)
          omega
        have hr := ins_rise (lt := fun a b => jcmp a b < 0) jirr jtrans hi.rise j p p1 p2 (fun h => by have := p3 h; have := jcmp_is.neg xs[p] j; omega)
        refine ⟨0, _, rfl, ?_, fun _ y => hr.2 y, fun h => absurd rfl h⟩
        simp only [Int.toNat_natCast]
        refine ⟨hr.1, fun x hx => ?_, fun x hx => ?_, by simp; omega⟩
        · rcases (hr.2 x).1 hx with rfl | h
          · exact hj
          · exact hi.ok x h
        · rcases (hr.2 x).1 hx with rfl | h
          · rw [show K + 15 + 5 = K + 20 by omega]; exact eb
          · exact hi.right x h
theorem drop_f (K : Nat) (hk : 32 < K) (xs : List S_api_Join) (hi : Inv (K + 20) xs) (j : S_api_Join) (hj : okJ j) : ∃ r ys, Jn_Drop.f (K + 20) ⟨xs⟩ j = some (r, ⟨ys⟩) ∧ Inv (K + 20) ys ∧ (r = true ↔ j ∈ xs) ∧ (∀ y, y ∈ ys ↔ y ∈ xs ∧ y ≠ j) := by
  unfold Jn_Drop.f
  have nd : xs.Nodup := hi.rise.imp fun {x y} hxy e => by subst e; exact jirr _ hxy
  rcases place_f (K + 15) xs j hi.ok hj hi.len (by omega) with ⟨p, h, e, e2⟩ | ⟨p, e, p1, p2, p3⟩
  · have hl := hi.len
    rw [show K + 20 = K + 15 + 5 by omega, e, Option.bind_some, if_pos rfl, if_pos (by simp; omega)]
    have hs : (xs.take p ++ xs.drop (p + 1)).Sublist xs := by
      conv => rhs; rw [← List.take_append_drop p xs]
      exact List.Sublist.append (List.Sublist.refl _) (by rw [List.drop_eq_getElem_cons h]; exact List.sublist_cons_self _ _)
    refine ⟨true, _, rfl, ?_, ⟨fun _ => by rw [← e2]; exact List.getElem_mem _, fun _ => rfl⟩, fun y => ?_⟩
    · simp only [Int.toNat_natCast]
      exact ⟨hi.rise.sublist hs, fun x hx => hi.ok x (hs.subset hx), fun x hx => by rw [show K + 15 + 5 = K + 20 by omega]; exact hi.right x (hs.subset hx), Nat.le_trans hs.length_le hl⟩
    · simp only [Int.toNat_natCast]
      have e3 : xs = xs.take p ++ (xs[p] :: xs.drop (p + 1)) := by rw [← List.drop_eq_getElem_cons h, List.take_append_drop]
      have nd2 := nd
      rw [e3, List.nodup_append, List.nodup_cons] at nd2
      obtain ⟨_, ⟨n1, _⟩, n2⟩ := nd2
      rw [e2] at n1 n2
      constructor
      · intro hy
        refine ⟨hs.subset hy, fun ey => ?_⟩
        subst ey
        rcases List.mem_append.1 hy with hy | hy
        · exact n2 _ hy _ (by simp) rfl
        · exact n1 hy
      · rintro ⟨hy, hne⟩
        rw [e3, List.mem_append, List.mem_cons] at hy
        rcases hy with hy | hy | hy
        · exact List.mem_append.2 (.inl hy)
        · exact absurd (hy.trans e2) hne
        · exact List.mem_append.2 (.inr hy)
  · have hnot : j ∉ xs := by
      intro hm
      obtain ⟨q, hq, rfl⟩ := List.getElem_of_mem hm
      by_cases h1 : q < p
      · exact jirr _ (p2 q hq h1)
      · have hp : p < xs.length := by omega
        have h3 := p3 hp
        by_cases h2 : q = p
        · subst h2
          have := jcmp_is.refl xs[q]; omega
        · have := List.pairwise_iff_getElem.1 hi.rise p q hp hq (by omega)
          omega
    rw [show K + 20 = K + 15 + 5 by omega, e, Option.bind_some, if_neg (by simp)]
    refine ⟨false, xs, rfl, by rw [show K + 15 + 5 = K + 20 by omega]; exact hi, by simpa using hnot, fun y => ⟨fun hy => ⟨hy, fun e => hnot (e ▸ hy)⟩, fun h => h.1⟩⟩
theorem all_f (xs : List S_api_Join) (h : xs.length ≤ 1000) : Jn_All.f ⟨xs⟩ = some xs := by
  show slices_CloneJ.f xs = _
  unfold slices_CloneJ.f
  rw [if_pos (by omega)]
theorem Inv.nil (K : Nat) : Inv K [] := ⟨List.Pairwise.nil, (fun _ h => nomatch h), (fun _ h => nomatch h), by simp⟩
theorem ke_l2 (j : S_api_Join) (hj : okJ j) (p : Int × S_joins_Joins) (xs : List S_api_Join) (hx : ∀ x ∈ xs, okJ x) (hl : xs.length ≤ 1000) : ∀ (n kk i c : Nat), i + n = xs.length → n < kk → c ≤ i → vinerylaw20_JoinsKeeps.l2 j p xs kk (c : Int) (i : Int) = some (p.2, ((c + (xs.drop i).count j : Nat) : Int))
  | 0, kk + 1, i, c, hi, _, _ => by
    rw [vinerylaw20_JoinsKeeps.l2, if_neg (by simp; omega), List.drop_eq_nil_of_le (by omega)]; simp
  | n + 1, kk + 1, i, c, hi, hk, hc => by
    have hil : i < xs.length := by omega
    rw [vinerylaw20_JoinsKeeps.l2, if_pos (by simp; omega), if_pos (show 0 ≤ (i : Int) ∧ (i : Int) < (xs.length : Int) by omega), rdA xs i hil, eqJ_iff (hx _ (List.getElem_mem hil)) hj, wrapS i (by omega), wrapS c (by omega), List.drop_eq_getElem_cons hil, List.count_cons]
    by_cases h : xs[i] = j
    · rw [if_pos (decide_eq_true h), if_pos (by simpa using h), ke_l2 j hj p xs hx hl n kk (i + 1) (c + 1) (by omega) (by omega) (by omega)]
      congr 3
      omega
    · rw [if_neg (by simpa using h), if_neg (by simpa using h), ke_l2 j hj p xs hx hl n kk (i + 1) c (by omega) (by omega) (by omega)]
      rfl
theorem ke_l3 (j : S_api_Join) (hj : okJ j) (p : Bool × S_joins_Joins) (xs : List S_api_Join) (hx : ∀ x ∈ xs, okJ x) (hl : xs.length ≤ 1000) : ∀ (n kk i c : Nat), i + n = xs.length → n < kk → c ≤ i → vinerylaw20_JoinsKeeps.l3 j p xs kk (c : Int) (i : Int) = some (p.2, ((c + (xs.drop i).count j : Nat) : Int))
  | 0, kk + 1, i, c, hi, _, _ => by
    rw [vinerylaw20_JoinsKeeps.l3, if_neg (by simp; omega), List.drop_eq_nil_of_le (by omega)]; simp
  | n + 1, kk + 1, i, c, hi, hk, hc => by
    have hil : i < xs.length := by omega
    rw [vinerylaw20_JoinsKeeps.l3, if_pos (by simp; omega), if_pos (show 0 ≤ (i : Int) ∧ (i : Int) < (xs.length : Int) by omega), rdA xs i hil, eqJ_iff (hx _ (List.getElem_mem hil)) hj, wrapS i (by omega), wrapS c (by omega), List.drop_eq_getElem_cons hil, List.count_cons]
    by_cases h : xs[i] = j
    · rw [if_pos (decide_eq_true h), if_pos (by simpa using h), ke_l3 j hj p xs hx hl n kk (i + 1) (c + 1) (by omega) (by omega) (by omega)]
      congr 3
      omega
    · rw [if_neg (by simpa using h), if_neg (by simpa using h), ke_l3 j hj p xs hx hl n kk (i + 1) c (by omega) (by omega) (by omega)]
      rfl
theorem ke_l4 (j : S_api_Join) (hj : okJ j) (p : Int × S_joins_Joins) (xs : List S_api_Join) (hx : ∀ x ∈ xs, okJ x) (hl : xs.length ≤ 1000) : ∀ (n kk i c : Nat), i + n = xs.length → n < kk → c ≤ i → vinerylaw20_JoinsKeeps.l4 j p xs kk (c : Int) (i : Int) = some (p.2, ((c + (xs.drop i).count j : Nat) : Int))
  | 0, kk + 1, i, c, hi, _, _ => by
    rw [vinerylaw20_JoinsKeeps.l4, if_neg (by simp; omega), List.drop_eq_nil_of_le (by omega)]; simp
  | n + 1, kk + 1, i, c, hi, hk, hc => by
    have hil : i < xs.length := by omega
    rw [vinerylaw20_JoinsKeeps.l4, if_pos (by simp; omega), if_pos (show 0 ≤ (i : Int) ∧ (i : Int) < (xs.length : Int) by omega), rdA xs i hil, eqJ_iff (hx _ (List.getElem_mem hil)) hj, wrapS i (by omega), wrapS c (by omega), List.drop_eq_getElem_cons hil, List.count_cons]
    by_cases h : xs[i] = j
    · rw [if_pos (decide_eq_true h), if_pos (by simpa using h), ke_l4 j hj p xs hx hl n kk (i + 1) (c + 1) (by omega) (by omega) (by omega)]
      congr 3
      omega
    · rw [if_neg (by simpa using h), if_neg (by simpa using h), ke_l4 j hj p xs hx hl n kk (i + 1) c (by omega) (by omega) (by omega)]
      rfl
theorem ke_l5 (j : S_api_Join) (hj : okJ j) (p : S_joins_Joins) (xs : List S_api_Join) (hx : ∀ x ∈ xs, okJ x) (hl : xs.length ≤ 1000) : ∀ (n kk i c : Nat), i + n = xs.length → n < kk → c ≤ i → vinerylaw20_JoinsKeeps.l5 j p xs kk (c : Int) (i : Int) = some (p, ((c + (xs.drop i).count j : Nat) : Int))
  | 0, kk + 1, i, c, hi, _, _ => by
    rw [vinerylaw20_JoinsKeeps.l5, if_neg (by simp; omega), List.drop_eq_nil_of_le (by omega)]; simp
  | n + 1, kk + 1, i, c, hi, hk, hc => by
    have hil : i < xs.length := by omega
    rw [vinerylaw20_JoinsKeeps.l5, if_pos (by simp; omega), if_pos (show 0 ≤ (i : Int) ∧ (i : Int) < (xs.length : Int) by omega), rdA xs i hil, eqJ_iff (hx _ (List.getElem_mem hil)) hj, wrapS i (by omega), wrapS c (by omega), List.drop_eq_getElem_cons hil, List.count_cons]
    by_cases h : xs[i] = j
    · rw [if_pos (decide_eq_true h), if_pos (by simpa using h), ke_l5 j hj p xs hx hl n kk (i + 1) (c + 1) (by omega) (by omega) (by omega)]
      congr 3
      omega
    · rw [if_neg (by simpa using h), if_neg (by simpa using h), ke_l5 j hj p xs hx hl n kk (i + 1) c (by omega) (by omega) (by omega)]
      rfl
theorem ix_l0 (xs : List S_api_Join) (name : List UInt8) (hl : xs.length ≤ 1000) : ∀ (n kk i : Nat), i + n = xs.length → n < kk → (∀ q (h : q < xs.length), q < i → xs[q].Vrf ≠ name) →
    (∃ (p : Nat) (h : p < xs.length), api_Join_56_joins_Joins_Clear_1.l0 xs name kk (i : Int) = some (.inl (p : Int)) ∧ xs[p].Vrf = name ∧ ∀ q (h : q < xs.length), q < p → xs[q].Vrf ≠ name) ∨
    (api_Join_56_joins_Joins_Clear_1.l0 xs name kk (i : Int) = some (.inr ()) ∧ ∀ x ∈ xs, x.Vrf ≠ name)
  | 0, kk + 1, i, hi, _, h => .inr ⟨by rw [api_Join_56_joins_Joins_Clear_1.l0, if_neg (by simp; omega)], fun x hx => by
      obtain ⟨q, hq, rfl⟩ := List.getElem_of_mem hx
      exact h q hq (by omega)⟩
  | n + 1, kk + 1, i, hi, hk, h => by
    have hil : i < xs.length := by omega
    rw [api_Join_56_joins_Joins_Clear_1.l0, if_pos (by simp; omega), if_pos (by omega), rdA xs i hil, wrapS i (by omega)]
    unfold joins_Joins_Clear_1.f
    rw [bstrL, bstrL, Option.bind_some]
    by_cases h1 : xs[i].Vrf = name
    · rw [if_pos (by simpa using h1)]
      exact .inl ⟨i, hil, rfl, h1, h⟩
    · rw [if_neg (by simpa using h1)]
      refine ix_l0 xs name hl n kk (i + 1) (by omega) (by omega) fun q hq hqi => ?_
      by_cases e : q = i
      · subst e; exact h1
      · exact h q hq (by omega)
theorem kp_iff (name : List UInt8) (j : S_api_Join) : kpJ name j = true ↔ j.Vrf ≠ name := by
  unfold kpJ; rw [bstrL, bstrL]; simp
theorem clear_f (K : Nat) (hk : 32 < K) (xs : List S_api_Join) (hi : Inv (K + 20) xs) (name : List UInt8) : ∃ r ys, Jn_Clear.f (K + 20) ⟨xs⟩ name = some (r, ⟨ys⟩) ∧ Inv (K + 20) ys ∧ ∀ y, y ∈ ys ↔ y ∈ xs ∧ y.Vrf ≠ name := by
  have hl := hi.len
  unfold Jn_Clear.f api_Join_56_joins_Joins_Clear_1.f
  rcases ix_l0 xs name (by omega) xs.length (K + 20) 0 (by omega) (by omega) (fun q _ h => by omega) with ⟨p, h, e, e2, e3⟩ | ⟨e, e2⟩
  · have e' : api_Join_56_joins_Joins_Clear_1.l0 xs name (K + 20) 0 = some (.inl (p : Int)) := e
    rw [e', Option.bind_some, Option.bind_some, if_pos ⟨.inr ⟨by omega, by simp; omega⟩, by simp; omega⟩]
    have hp : ¬ (p : Int) = -1 := by omega
    refine ⟨_, delJ name xs p, by rw [if_neg hp, Int.toNat_natCast], ?_, fun y => ?_⟩
    · have hs : (delJ name xs p).Sublist xs := by
        unfold delJ
        conv => rhs; rw [← List.take_append_drop p xs]
        exact List.Sublist.append (List.Sublist.refl _) ((List.filter_sublist).trans (by rw [List.drop_eq_getElem_cons h]; exact List.sublist_cons_self _ _))
      exact ⟨hi.rise.sublist hs, fun x hx => hi.ok x (hs.subset hx), fun x hx => hi.right x (hs.subset hx), Nat.le_trans hs.length_le hl⟩
    · unfold delJ
      have e5 : xs = xs.take p ++ (xs[p] :: xs.drop (p + 1)) := by rw [← List.drop_eq_getElem_cons h, List.take_append_drop]
      have e6 : ∀ z ∈ xs.take p, z.Vrf ≠ name := fun z hz => by
        obtain ⟨q, hq, rfl⟩ := List.getElem_of_mem hz
        rw [List.length_take] at hq
        rw [List.getElem_take]
        exact e3 q (by omega) (by omega)
      rw [List.mem_append, List.mem_filter, kp_iff]
      constructor
      · rintro (hy | ⟨hy, hn⟩)
        · exact ⟨List.mem_of_mem_take hy, e6 y hy⟩
        · exact ⟨List.mem_of_mem_drop hy, hn⟩
      · rintro ⟨hy, hn⟩
        rw [e5, List.mem_append, List.mem_cons] at hy
        rcases hy with hy | hy | hy
        · exact .inl hy
        · rw [hy] at hn; exact absurd e2 hn
        · exact .inr ⟨hy, hn⟩
  · have e' : api_Join_56_joins_Joins_Clear_1.l0 xs name (K + 20) 0 = some (.inr ()) := e
    rw [e', Option.bind_some, Option.bind_some, if_pos ⟨.inl rfl, by simp; omega⟩]
    exact ⟨_, xs, by rw [if_pos rfl], hi, fun y => ⟨fun hy => ⟨hy, e2 y hy⟩, fun h => h.1⟩⟩
theorem ke_l0 (K : Nat) (hk : 32 < K) (acts : List S_vinerylaw20_Act) (ha : ∀ a ∈ acts, okJ a.J) : ∀ (n kk i : Nat) (xs : List S_api_Join), i + n = min acts.length 60 → n < kk → Inv (K + 20) xs →
    ∃ ys, vinerylaw20_JoinsKeeps.l0 (K + 20) acts kk ⟨xs⟩ (i : Int) = some ⟨ys⟩ ∧ Inv (K + 20) ys
  | 0, kk + 1, i, xs, hi, _, hI => by
    refine ⟨xs, ?_, hI⟩
    rw [vinerylaw20_JoinsKeeps.l0, if_neg]
    by_cases h : i < acts.length
    · rw [if_pos (by simpa using h)]; simp; omega
    · rw [if_neg (by simpa using h)]; simp
  | n + 1, kk + 1, i, xs, hi, hkk, hI => by
    have hil : i < acts.length := by omega
    have hj := ha _ (List.getElem_mem hil)
    have hb : 0 ≤ (i : Int) ∧ (i : Int) < (acts.length : Int) := by omega
    rw [vinerylaw20_JoinsKeeps.l0, if_pos (by rw [if_pos (by simpa using hil)]; simp; omega)]
    simp only [if_pos hb, rdA acts i hil, wrapS i (show i < 1000000 by omega)]
    by_cases h0 : (acts[i].Do == (0 : Int)) = true
    · obtain ⟨r1, y1, e1, I1, _⟩ := add_f K hk xs hI acts[i].J hj
      rw [if_pos h0, e1, Option.bind_some]
      exact ke_l0 K hk acts ha n kk (i + 1) y1 (by omega) (by omega) I1
    · rw [if_neg h0]
      exact ke_l0 K hk acts ha n kk (i + 1) xs (by omega) (by omega) hI
theorem inv_nodup {K : Nat} {xs : List S_api_Join} (h : Inv K xs) : xs.Nodup := h.rise.imp fun {x y} hxy e => by subst e; exact jirr _ hxy
theorem one_count {xs : List S_api_Join} (h : xs.Nodup) {j : S_api_Join} (hj : j ∈ xs) : xs.count j = 1 := by
  have h1 := (List.nodup_iff_count.1 h) j
  have h2 := List.count_pos_iff.2 hj
  omega
theorem skip_e (d : Int) (x j : S_api_Join) (hx : okJ x) (hj : okJ j) : (if (d == (1 : Int)) = true then (if (((bstr (x.Vrf)).toList == (bstr j.Vrf).toList) && (((bstr (x.Iface)).toList == (bstr j.Iface).toList) && ((((x.Source).Size == j.Source.Size) && ((eqA 16 ((x.Source).B) j.Source.B) && true)) && ((((x.Group).Size == j.Group.Size) && ((eqA 16 ((x.Group).B) j.Group.B) && true)) && true)))) = true then some (true : Bool) else (if (d == (2 : Int)) = true then some ((bstr (x.Vrf)).toList == (bstr j.Vrf).toList : Bool) else some (false : Bool))) else (if (d == (2 : Int)) = true then some ((bstr (x.Vrf)).toList == (bstr j.Vrf).toList : Bool) else some (false : Bool))) = some (decide (d = 1 ∧ x = j ∨ d = 2 ∧ x.Vrf = j.Vrf)) := by
  rw [eqJ_iff hx hj, bstrL, bstrL]
  by_cases h1 : d = 1
  · subst h1
    by_cases h2 : x = j
    · simp [h2]
    · simp [h2]
  · by_cases h2 : d = 2
    · subst h2; simp; rw [Bool.eq_iff_iff, beq_iff_eq, decide_eq_true_eq]
    · simp [h1, h2]
theorem ke_l1 (K : Nat) (hk : 1000 < K) (acts : List S_vinerylaw20_Act) (ha : ∀ a ∈ acts, okJ a.J) (j : S_api_Join) (hj : okJ j) : ∀ (n kk i : Nat) (xs : List S_api_Join), i + n = min acts.length 60 → n < kk → Inv (K + 20) xs → j ∈ xs →
    ∃ ys, vinerylaw20_JoinsKeeps.l1 (K + 20) j acts kk ⟨xs⟩ (i : Int) = some (.inr ⟨ys⟩) ∧ Inv (K + 20) ys ∧ j ∈ ys
  | 0, kk + 1, i, xs, hi, _, hI, hm => by
    refine ⟨xs, ?_, hI, hm⟩
    rw [vinerylaw20_JoinsKeeps.l1, if_neg]
    by_cases h : i < acts.length
    · rw [if_pos (by simpa using h)]; simp; omega
    · rw [if_neg (by simpa using h)]; simp
  | n + 1, kk + 1, i, xs, hi, hkk, hI, hm => by
    have hil : i < acts.length := by omega
    have hx := ha _ (List.getElem_mem hil)
    have hb : 0 ≤ (i : Int) ∧ (i : Int) < (acts.length : Int) := by omega
    rw [vinerylaw20_JoinsKeeps.l1, if_pos (by rw [if_pos (by simpa using hil)]; simp; omega)]
    simp only [if_pos hb, rdA acts i hil, wrapS i (show i < 1000000 by omega)]
    rw [skip_e _ _ _ hx hj, Option.bind_some]
    have next : ∀ zs, Inv (K + 20) zs → j ∈ zs → ∃ ys, vinerylaw20_JoinsKeeps.l1 (K + 20) j acts kk ⟨zs⟩ ((i + 1 : Nat) : Int) = some (.inr ⟨ys⟩) ∧ Inv (K + 20) ys ∧ j ∈ ys := fun zs hz hzm => ke_l1 K hk acts ha j hj n kk (i + 1) zs (by omega) (by omega) hz hzm
    have cnt : ∀ zs, Inv (K + 20) zs → j ∈ zs → ((0 + (zs.drop 0).count j : Nat) : Int) = 1 := fun zs hz hzm => by rw [List.drop_zero, one_count (inv_nodup hz) hzm]; rfl
    by_cases hs : acts[i].Do = 1 ∧ acts[i].J = j ∨ acts[i].Do = 2 ∧ acts[i].J.Vrf = j.Vrf
    · rw [if_pos (decide_eq_true hs)]
      exact next xs hI hm
    · rw [if_neg (by simpa using hs)]
      by_cases h0 : (acts[i].Do == (0 : Int)) = true
      · obtain ⟨r1, y1, e1, I1, m1, m2⟩ := add_f K (by omega) xs hI acts[i].J hx
        have hy : j ∈ y1 := by
          by_cases hr : r1 = 0
          · exact (m1 hr j).2 (.inr hm)
          · rw [m2 hr]; exact hm
        have hl := I1.len
        have c := ke_l2 j hj (r1, ⟨y1⟩) y1 I1.ok (by omega) y1.length (K + 20) 0 0 (by omega) (by omega) (Nat.le_refl _)
        rw [cnt y1 I1 hy] at c
        have c' : vinerylaw20_JoinsKeeps.l2 j (r1, ⟨y1⟩) y1 (K + 20) 0 0 = some (⟨y1⟩, 1) := c
        rw [if_pos h0, e1, Option.bind_some, all_f y1 (by omega), Option.bind_some, c', Option.bind_some, if_neg (by simp)]
        exact next y1 I1 hy
      · rw [if_neg h0]
        by_cases h1 : (acts[i].Do == (1 : Int)) = true
        · obtain ⟨r1, y1, e1, I1, _, m2⟩ := drop_f K (by omega) xs hI acts[i].J hx
          have hne : j ≠ acts[i].J := fun e => hs (.inl ⟨by simpa using h1, e.symm⟩)
          have hy : j ∈ y1 := (m2 j).2 ⟨hm, hne⟩
          have hl := I1.len
          have c := ke_l3 j hj (r1, ⟨y1⟩) y1 I1.ok (by omega) y1.length (K + 20) 0 0 (by omega) (by omega) (Nat.le_refl _)
          rw [cnt y1 I1 hy] at c
          have c' : vinerylaw20_JoinsKeeps.l3 j (r1, ⟨y1⟩) y1 (K + 20) 0 0 = some (⟨y1⟩, 1) := c
          rw [if_pos h1, e1, Option.bind_some, all_f y1 (by omega), Option.bind_some, c', Option.bind_some, if_neg (by simp)]
          exact next y1 I1 hy
        · rw [if_neg h1]
          by_cases h2 : (acts[i].Do == (2 : Int)) = true
          · obtain ⟨r1, y1, e1, I1, m2⟩ := clear_f K (by omega) xs hI acts[i].J.Vrf
            have hne : j.Vrf ≠ acts[i].J.Vrf := fun e => hs (.inr ⟨by simpa using h2, e.symm⟩)
            have hy : j ∈ y1 := (m2 j).2 ⟨hm, hne⟩
            have hl := I1.len
            have c := ke_l4 j hj (r1, ⟨y1⟩) y1 I1.ok (by omega) y1.length (K + 20) 0 0 (by omega) (by omega) (Nat.le_refl _)
            rw [cnt y1 I1 hy] at c
            have c' : vinerylaw20_JoinsKeeps.l4 j (r1, ⟨y1⟩) y1 (K + 20) 0 0 = some (⟨y1⟩, 1) := c
            rw [if_pos h2, e1, Option.bind_some, all_f y1 (by omega), Option.bind_some, c', Option.bind_some, if_neg (by simp)]
            exact next y1 I1 hy
          · have hl := hI.len
            have c := ke_l5 j hj ⟨xs⟩ xs hI.ok (by omega) xs.length (K + 20) 0 0 (by omega) (by omega) (Nat.le_refl _)
            rw [cnt xs hI hm] at c
            have c' : vinerylaw20_JoinsKeeps.l5 j ⟨xs⟩ xs (K + 20) 0 0 = some (⟨xs⟩, 1) := c
            rw [if_neg h2, all_f xs (by omega), Option.bind_some, c', Option.bind_some, if_neg (by simp)]
            exact next xs hI hm
theorem JoinsKeeps.law (acts : List S_vinerylaw20_Act) (hacts : okL 88 okS_vinerylaw20_Act acts) (j : S_api_Join) (hj : okS_api_Join j) (more : List S_vinerylaw20_Act) (hmore : okL 88 okS_vinerylaw20_Act more) : ∃ k, vinerylaw20_JoinsKeeps.f k acts j more = some true := by
  refine ⟨1080 + 20, ?_⟩
  have hv : ∀ x ∈ acts, okJ x.J := fun x hx => okS_okJ (hacts.2 x hx).2
  have hv2 : ∀ x ∈ more, okJ x.J := fun x hx => okS_okJ (hmore.2 x hx).2
  have hj := okS_okJ hj
  obtain ⟨ys, e1, I1⟩ := ke_l0 1080 (by omega) acts hv (min acts.length 60) (1080 + 20) 0 [] (by omega) (by omega) (Inv.nil _)
  obtain ⟨r, zs, e2, I2, m1, _⟩ := add_f 1080 (by omega) ys I1 j hj
  have e1' : vinerylaw20_JoinsKeeps.l0 (1040 + 60) acts (1040 + 60) ⟨[]⟩ 0 = some ⟨ys⟩ := e1
  have e2' : Jn_Add.f (1040 + 60) ⟨ys⟩ j = some (r, ⟨zs⟩) := e2
  unfold vinerylaw20_JoinsKeeps.f
  rw [show (1080 + 20 : Nat) = 1040 + 60 from rfl, small20, Option.bind_some, show Jn_New.f = some ⟨[]⟩ from rfl, Option.bind_some, if_neg (by simp), e1', Option.bind_some, e2', Option.bind_some]
  by_cases hr : r = 0
  · subst hr
    rw [if_neg (by simp)]
    have hm : j ∈ zs := (m1 rfl j).2 (.inl rfl)
    obtain ⟨us, e3, I3, hm3⟩ := ke_l1 1080 (by omega) more hv2 j hj (min more.length 60) (1080 + 20) 0 zs (by omega) (by omega) I2 hm
    have e3' : vinerylaw20_JoinsKeeps.l1 (1040 + 60) j more (1040 + 60) ⟨zs⟩ 0 = some (.inr ⟨us⟩) := e3
    obtain ⟨b1, v1, f1, J1, k1, k2⟩ := drop_f 1080 (by omega) us I3 j hj
    obtain ⟨b2, v2, f2, J2, k3, _⟩ := drop_f 1080 (by omega) v1 J1 j hj
    have f1' : Jn_Drop.f (1040 + 60) ⟨us⟩ j = some (b1, ⟨v1⟩) := f1
    have f2' : Jn_Drop.f (1040 + 60) ⟨v1⟩ j = some (b2, ⟨v2⟩) := f2
    have hb1 : b1 = true := k1.2 hm3
    have hb2 : b2 = false := by
      cases hb : b2
      · rfl
      · exact absurd rfl ((k2 j).1 (k3.1 hb)).2
    rw [e3', Option.bind_some]
    show ((Jn_Drop.f (1040 + 60) ⟨us⟩ j).bind _).bind _ = _
    rw [f1', Option.bind_some, hb1, if_pos rfl, f2', hb2]; rfl
  · rw [if_pos (by simpa using hr)]
end Go.E
