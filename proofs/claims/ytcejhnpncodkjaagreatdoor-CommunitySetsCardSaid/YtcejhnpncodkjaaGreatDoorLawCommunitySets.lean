/- The plain law: what the walk computes is true, whatever the input. -/
import Derived.Test.YtcejhnpncodkjaaGreatDoorGenCommunitySets
import Derived.Test.YtcejhnpncodkjaaGreatDoorEngR
set_option linter.unusedVariables false
set_option linter.unusedSimpArgs false
namespace Go.E
theorem bstr_toList (l : List UInt8) : (bstr l).toList = l := by rw [ByteArray.toList_eq]; simp [bstr]
theorem u8_tri {x y : UInt8} (h : ¬ x < y) (h' : ¬ y < x) : x = y := UInt8.le_antisymm (UInt8.not_lt.1 h') (UInt8.not_lt.1 h)
theorem cb_cons (x y : UInt8) (xs ys : List UInt8) : Go.Lib.compareBytes (x :: xs) (y :: ys) = if x < y then -1 else if y < x then 1 else Go.Lib.compareBytes xs ys := rfl
theorem cmp_less : ∀ (a b : List UInt8), decide (Go.Lib.compareBytes a b < 0) = Op.bytesLess a b
  | [], [] => rfl
  | [], _ :: _ => rfl
  | _ :: _, [] => rfl
  | x :: xs, y :: ys => by
    rw [cb_cons]
    unfold Op.bytesLess
    by_cases h : x < y
    · simp [h]
    · rw [if_neg h]
      by_cases h' : y < x
      · rw [if_pos h']
        have : x ≠ y := fun e => by subst e; exact UInt8.lt_irrefl _ h'
        simp [h, this]
      · rw [if_neg h', cmp_less xs ys]
        have := u8_tri h h'
        subst this
        simp [h]
/-! orders -/
structure IsCmp {α : Type} (c : α → α → Int) : Prop where
  range : ∀ a b, c a b = -1 ∨ c a b = 0 ∨ c a b = 1
  neg : ∀ a b, c b a = - c a b
  trans : ∀ a b d, c a b ≤ 0 → c b d ≤ 0 → c a d ≤ 0 ∧ (c a b < 0 ∨ c b d < 0 → c a d < 0)
theorem IsCmp.by {α β : Type} {c : β → β → Int} (h : IsCmp c) (f : α → β) : IsCmp (fun a b => c (f a) (f b)) := ⟨fun _ _ => h.range _ _, fun _ _ => h.neg _ _, fun _ _ _ => h.trans _ _ _⟩
def isB (l : List Int) : Prop := ∀ y ∈ l, 0 ≤ y ∧ y ≤ 255
theorem okA_isB {l : List Int} {n : Nat} (h : okA .u8 n l) : isB l := fun y hy => by
  have := h.2 y hy
  have e1 : IntKind.u8.min = 0 := rfl
  have e2 : IntKind.u8.max = 255 := rfl
  unfold okI at this
  omega
theorem ar_at (l : List Int) (i : Nat) (hi : i < l.length) : ar l i = l[i] := by simp [ar, List.getD, hi]
/-! route distinguishers -/
/-! trimming zeros -/
/-! addresses -/
def zeros : List Int := List.replicate 16 0
/-! tunnels -/
theorem le8_iff (x y : List Int) : le8 x y = true ↔ b2s (arL 8 x) ≤ b2s (arL 8 y) := by
  simp only [le8, cmp8, Bool.not_eq_true', decide_eq_false_iff_not, sx_lt, List.not_lt]
/-- there is one row in order -/
theorem ms_eq {l m : List (List Int)} (hv : ∀ x ∈ l, ok8b x = true) (hp : m.Perm l) (hs : m.Pairwise (fun x y => le8 x y = true)) : l.mergeSort le8 = m := by
  refine List.Perm.eq_of_pairwise (le := fun x y => le8 x y = true) ?_ ?_ hs ((List.mergeSort_perm l le8).trans hp.symm)
  · intro a b ha hb h1 h2
    rw [le8_iff] at h1 h2
    exact ok8_inj (hv a ((List.mergeSort_perm l le8).mem_iff.1 ha)) (hv b (hp.mem_iff.1 hb)) (List.le_antisymm h1 h2)
  · refine List.pairwise_mergeSort ?_ ?_ l
    · intro a b c h1 h2
      rw [le8_iff] at *
      exact List.le_trans h1 h2
    · intro a b
      rw [Bool.or_eq_true, le8_iff, le8_iff]
      exact List.le_total _ _
def smA : List Int := [0, 2, 253, 232, 0, 0, 0, 77]
def smB : List Int := [1, 11, 10, 0, 0, 1, 0, 3]
theorem small_set : community_Set.f [smB, smA, smB] = some [smA, smB] := by
  have h : [smB, smA, smB].mergeSort le8 = [smA, smB, smB] := ms_eq (by decide) (by decide) (by decide)
  unfold community_Set.f
  rw [if_pos (by decide)]
  unfold setE
  rw [h]
  rfl
theorem small04 (k : Nat) : vinerylaw04_small.f (k + 60) = some true := by
  have hT : community_Target.f (k + 60) 0 65000 77 = some (smA, 0) := by kernel_rfl
  have hI : community_Import.f (k + 60) ⟨4, [10, 0, 0, 1, 0, 0, 0, 0, 0, 0, 0, 0, 0, 0, 0, 0]⟩ 3 = some (smB, 0) := by kernel_rfl
  have hC : community_Source.f (k + 60) 65000 = some ([2, 9, 0, 0, 253, 232, 0, 0], 0) := by kernel_rfl
  unfold vinerylaw04_small.f
  rw [hT, Option.bind_some, hI, Option.bind_some, hC, Option.bind_some]
  show (community_Set.f [smB, smA, smB]).bind _ = _
  rw [small_set, Option.bind_some]
  kernel_rfl
theorem es8 (z : List Int) : eqA 8 z z = true := (eqA_iff _ _ _).2 fun _ _ => rfl
def kindR (e : List Int) : Int := if ar e 1 = 2 ∧ ar e 0 ≤ 2 then 1 else if ar e 1 = 11 ∧ ar e 0 = 1 then 2 else if ar e 1 = 9 ∧ ar e 0 = 2 ∧ (IntKind.u8.wrap (BitVec.ofInt IntKind.u8.bits (ar e 6) ||| BitVec.ofInt IntKind.u8.bits (ar e 7)).toNat) = 0 then 3 else 0
theorem and3 (p q : Prop) [Decidable p] [Decidable q] (x y : Bool) (hx : x = true ↔ p) (hy : y = true ↔ q) : (if x = true then some (y : Bool) else some false) = some (decide (p ∧ q)) := by
  by_cases hp : p <;> by_cases hq : q <;> simp_all
theorem kind_ok (e : List Int) : community_Kind.f e = some (kindR e) := by
  unfold community_Kind.f kindR
  have h1 := and3 (ar e 1 = 2) (ar e 0 ≤ 2) (ar e 1 == 2) (decide (ar e 0 ≤ 2)) (by simp) (by simp)
  have h2 := and3 (ar e 1 = 11) (ar e 0 = 1) (ar e 1 == 11) (ar e 0 == 1) (by simp) (by simp)
  have h3 : (if (ar e 1 == (9 : Int)) = true then (if (ar e 0 == (2 : Int)) = true then some ((IntKind.u8.wrap (BitVec.ofInt IntKind.u8.bits (ar e 6) ||| BitVec.ofInt IntKind.u8.bits (ar e 7)).toNat) == (0 : Int) : Bool) else some (false : Bool)) else some (false : Bool)) = some (decide (ar e 1 = 9 ∧ ar e 0 = 2 ∧ (IntKind.u8.wrap (BitVec.ofInt IntKind.u8.bits (ar e 6) ||| BitVec.ofInt IntKind.u8.bits (ar e 7)).toNat) = 0)) := by
    generalize (IntKind.u8.wrap (BitVec.ofInt IntKind.u8.bits (ar e 6) ||| BitVec.ofInt IntKind.u8.bits (ar e 7)).toNat : Int) = q
    by_cases p1 : ar e 1 = 9 <;> by_cases p2 : ar e 0 = 2 <;> by_cases p3 : q = 0 <;> simp_all
  rw [h1, Option.bind_some]
  by_cases c1 : ar e 1 = 2 ∧ ar e 0 ≤ 2
  · rw [if_pos (decide_eq_true c1), if_pos c1]
  · rw [if_neg (by simpa using c1), if_neg c1, h2, Option.bind_some]
    by_cases c2 : ar e 1 = 11 ∧ ar e 0 = 1
    · rw [if_pos (decide_eq_true c2), if_pos c2]
    · rw [if_neg (by simpa using c2), if_neg c2, h3, Option.bind_some]
      split
      · rename_i c3; rw [if_pos (of_decide_eq_true c3)]
      · rename_i c3; rw [if_neg (by simpa using c3)]
theorem rdx {α : Type} [Inhabited α] (l : List α) (i : Nat) (hi : i < l.length) : rd l (i : Int) = l[i] := by simp [rd, List.getD, hi]
def yes (r : Int ⊕ Unit) : Bool := match r with | .inl j => decide (j ≥ 0) | .inr _ => false
theorem ind_l0 (l : List (List Int)) (v : List Int) (hl : l.length ≤ 140737488351232) : ∀ (m k i : Nat), i + m = l.length → m < k → ∃ r, slices_Index_Ext.l0 l v k (i : Int) = some r ∧ yes r = (l.drop i).any (eqA 8 v)
  | 0, k + 1, i, h, _ => ⟨.inr (), by rw [slices_Index_Ext.l0, if_neg (by simp; omega)], by rw [List.drop_eq_nil_of_le (by omega)]; rfl⟩
  | m + 1, k + 1, i, h, hk => by
    have hi : i < l.length := by omega
    rw [slices_Index_Ext.l0, if_pos (by simp; omega), if_pos (by omega), rdx l i hi, List.drop_eq_getElem_cons hi, List.any_cons]
    by_cases he : eqA 8 v l[i] = true
    · exact ⟨.inl i, by rw [if_pos he], by rw [he]; simp [yes]⟩
    · obtain ⟨r, h1, h2⟩ := ind_l0 l v hl m k (i + 1) (by omega) (by omega)
      have e : IntKind.i64.wrap ((i : Int) + 1) = ((i + 1 : Nat) : Int) := by rw [IntKind.wrap_i64]; omega
      exact ⟨r, by rw [if_neg he, e, h1], by rw [h2]; simp [he]⟩
theorem cont_ok (l : List (List Int)) (v : List Int) (k : Nat) (hl : l.length ≤ 140737488351232) (hk : l.length < k) : slices_Contains_Ext.f k l v = some (l.any (eqA 8 v)) := by
  obtain ⟨r, h1, h2⟩ := ind_l0 l v hl l.length k 0 (by omega) hk
  unfold slices_Contains_Ext.f slices_Index_Ext.f
  rw [show ((0 : Int)) = ((0 : Nat) : Int) from rfl, h1]
  rw [List.drop_zero] at h2
  rw [← h2]
  cases r <;> rfl
def hasR (b : List (List Int)) (e : List Int) : Bool := decide (kindR e = 1) && b.any (eqA 8 e)
def meetR (a b : List (List Int)) : Bool := a.any (hasR b)
theorem meet1_ok (k : Nat) (e : List Int) (b : List (List Int)) (hl : b.length ≤ 140737488351232) (hk : b.length < k) : community_Meet_1.f k e b = some (hasR b e) := by
  unfold community_Meet_1.f hasR
  rw [kind_ok, Option.bind_some]
  by_cases h : kindR e = 1
  · rw [if_pos (by simp [h]), cont_ok b e k hl hk]; simp [h]
  · rw [if_neg (by simp [h])]; simp [h]
theorem indf_l0 (b : List (List Int)) (k0 : Nat) (hb : b.length ≤ 140737488351232) (hk0 : b.length < k0) (l : List (List Int)) (hl : l.length ≤ 140737488351232) : ∀ (m k i : Nat), i + m = l.length → m < k → ∃ r, slices_IndexFunc_Ext_community_Meet_1.l0 k0 l b k (i : Int) = some r ∧ yes r = (l.drop i).any (hasR b)
  | 0, k + 1, i, h, _ => ⟨.inr (), by rw [slices_IndexFunc_Ext_community_Meet_1.l0, if_neg (by simp; omega)], by rw [List.drop_eq_nil_of_le (by omega)]; rfl⟩
  | m + 1, k + 1, i, h, hk => by
    have hi : i < l.length := by omega
    rw [slices_IndexFunc_Ext_community_Meet_1.l0, if_pos (by simp; omega), if_pos (by omega), rdx l i hi, meet1_ok k0 _ b hb hk0, Option.bind_some, List.drop_eq_getElem_cons hi, List.any_cons]
    by_cases he : hasR b l[i] = true
    · exact ⟨.inl i, by rw [if_pos he], by rw [he]; simp [yes]⟩
    · obtain ⟨r, h1, h2⟩ := indf_l0 b k0 hb hk0 l hl m k (i + 1) (by omega) (by omega)
      have e : IntKind.i64.wrap ((i : Int) + 1) = ((i + 1 : Nat) : Int) := by rw [IntKind.wrap_i64]; omega
      exact ⟨r, by rw [if_neg he, e, h1], by rw [h2]; simp [he]⟩
theorem meet_ok (a b : List (List Int)) (k : Nat) (ha : a.length ≤ 140737488351232) (hb : b.length ≤ 140737488351232) (hka : a.length < k) (hkb : b.length < k) : community_Meet.f k a b = some (meetR a b) := by
  obtain ⟨r, h1, h2⟩ := indf_l0 b k hb hkb a ha a.length k 0 (by omega) hka
  unfold community_Meet.f slices_ContainsFunc_Ext_community_Meet_1.f slices_IndexFunc_Ext_community_Meet_1.f meetR
  rw [show ((0 : Int)) = ((0 : Nat) : Int) from rfl, h1]
  rw [List.drop_zero] at h2
  rw [← h2]
  cases r <;> rfl
def vE (e : List Int) : Prop := e.length = 8 ∧ isB e
def allv (l : List (List Int)) : Prop := ∀ y ∈ l, vE y
theorem ok8_vE (x : List Int) : ok8b x = true ↔ vE x := by
  simp only [ok8b, vE, isB, Bool.and_eq_true, beq_iff_eq, List.all_eq_true, decide_eq_true_eq]
  constructor
  · rintro ⟨h, h2⟩; exact ⟨h, fun y hy => ⟨(h2 y hy).1, by have := (h2 y hy).2; omega⟩⟩
  · rintro ⟨h, h2⟩; exact ⟨h, fun y hy => ⟨(h2 y hy).1, by have := (h2 y hy).2; omega⟩⟩
theorem eqA_vE {x y : List Int} (hx : vE x) (hy : vE y) : eqA 8 x y = true ↔ x = y := by
  rw [eqA_iff]
  constructor
  · intro h
    apply List.ext_getElem (by rw [hx.1, hy.1])
    intro i h1 h2
    have := h i (by rw [hx.1] at h1; exact h1)
    rwa [ar_at _ _ h1, ar_at _ _ h2] at this
  · rintro rfl i _; rfl
def lt8 (x y : List Int) : Prop := b2s (arL 8 x) < b2s (arL 8 y)
theorem lt8_irrefl (x : List Int) : ¬ lt8 x x := List.lt_irrefl _
theorem lt8_of {x y : List Int} (hx : vE x) (hy : vE y) (h : le8 x y = true) (hn : x ≠ y) : lt8 x y := by
  rw [le8_iff] at h
  by_cases hl : b2s (arL 8 x) < b2s (arL 8 y)
  · exact hl
  · exact absurd (ok8_inj ((ok8_vE x).2 hx) ((ok8_vE y).2 hy) (List.le_antisymm h (List.not_lt.1 hl))) hn
theorem le_lt8 {x y z : List Int} (h : le8 x y = true) (h2 : lt8 y z) : lt8 x z := by
  rw [le8_iff] at h
  exact List.lt_of_le_of_lt h h2
theorem sorted8 (l : List (List Int)) : (l.mergeSort le8).Pairwise (fun x y => le8 x y = true) := by
  refine List.pairwise_mergeSort ?_ ?_ l
  · intro a b c h1 h2
    rw [le8_iff] at *
    exact List.le_trans h1 h2
  · intro a b
    rw [Bool.or_eq_true, le8_iff, le8_iff]
    exact List.le_total _ _
theorem dd_inv (xs : List (List Int)) (hv : allv xs) (hs : xs.Pairwise (fun x y => le8 x y = true)) : ∀ m, m ≤ xs.length → (ddT xs m).Pairwise lt8 ∧ ∀ y, y ∈ ddT xs m ↔ y ∈ xs.take m
  | 0, _ => ⟨by simp [ddT], by simp [ddT]⟩
  | m + 1, hm => by
    obtain ⟨ih1, ih2⟩ := dd_inv xs hv hs m (by omega)
    have hml : m < xs.length := by omega
    have hg : xs.getD m [] = xs[m] := by rw [List.getD_eq_getElem?_getD, List.getElem?_eq_getElem hml]; rfl
    have ht : xs.take (m + 1) = xs.take m ++ [xs[m]] := by rw [List.take_add_one, List.getElem?_eq_getElem hml]; rfl
    rw [ddT_succ, hg, ht]
    by_cases hk : keep8 xs m = true
    · rw [if_pos hk]
      refine ⟨?_, fun y => by rw [List.mem_append, List.mem_append, ih2]⟩
      rw [List.pairwise_append]
      refine ⟨ih1, List.pairwise_singleton _ _, fun y hy z hz => ?_⟩
      rw [List.mem_singleton] at hz
      subst hz
      have hy := (ih2 y).1 hy
      obtain ⟨j, hj, rfl⟩ := List.getElem_of_mem hy
      have hjm : j < m := by rw [List.length_take] at hj; omega
      rw [List.getElem_take]
      have hm1 : m - 1 < xs.length := by omega
      have hg1 : xs.getD (m - 1) [] = xs[m - 1] := by rw [List.getD_eq_getElem?_getD, List.getElem?_eq_getElem hm1]; rfl
      have hne : xs[m - 1] ≠ xs[m] := by
        intro e
        unfold keep8 at hk
        have : (m == 0) = false := by simp; omega
        rw [this, hg, hg1, e, es8] at hk
        cases hk
      have l1 : lt8 xs[m - 1] xs[m] := lt8_of (hv _ (List.getElem_mem _)) (hv _ (List.getElem_mem _)) (List.pairwise_iff_getElem.1 hs (m - 1) m hm1 hml (by omega)) hne
      by_cases hj1 : j = m - 1
      · subst hj1; exact l1
      · exact le_lt8 (List.pairwise_iff_getElem.1 hs j (m - 1) (by omega) hm1 (by omega)) l1
    · rw [if_neg hk, List.append_nil]
      refine ⟨ih1, fun y => ?_⟩
      rw [ih2, List.mem_append, List.mem_singleton]
      refine ⟨.inl, fun h => h.elim id fun e => ?_⟩
      have hm0 : m ≠ 0 := by
        intro e0
        subst e0
        exact hk rfl
      have hm1 : m - 1 < xs.length := by omega
      have hg1 : xs.getD (m - 1) [] = xs[m - 1] := by rw [List.getD_eq_getElem?_getD, List.getElem?_eq_getElem hm1]; rfl
      have he : eqA 8 xs[m] xs[m - 1] = true := by
        unfold keep8 at hk
        have : (m == 0) = false := by simpa using hm0
        rw [this, hg, hg1] at hk
        simpa using hk
      rw [e, (eqA_vE (hv _ (List.getElem_mem _)) (hv _ (List.getElem_mem _))).1 he]
      exact List.mem_take_iff_getElem.2 ⟨m - 1, by omega, rfl⟩
theorem setE_spec (l : List (List Int)) (hv : allv l) : (setE l).Pairwise lt8 ∧ ∀ y, y ∈ setE l ↔ y ∈ l := by
  have hp := List.mergeSort_perm l le8
  have hl : (l.mergeSort le8).length = l.length := hp.length_eq
  have := dd_inv (l.mergeSort le8) (fun y hy => hv y (hp.mem_iff.1 hy)) (sorted8 l) l.length (by omega)
  refine ⟨this.1, fun y => ?_⟩
  rw [← hp.mem_iff]
  have h2 := this.2 y
  rw [← hl, List.take_length] at h2
  unfold setE
  rw [← hl]
  exact h2
theorem sets_unique {a b : List (List Int)} (ha : a.Pairwise lt8) (hb : b.Pairwise lt8) (h : ∀ y, y ∈ a ↔ y ∈ b) : a = b := by
  have nd : ∀ {c : List (List Int)}, c.Pairwise lt8 → c.Nodup := fun hc => hc.imp fun {x y} hxy e => by subst e; exact lt8_irrefl _ hxy
  have hp : a.Perm b := (List.perm_ext_iff_of_nodup (nd ha) (nd hb)).2 h
  exact List.Perm.eq_of_pairwise (le := lt8) (fun x y _ _ h1 h2 => absurd (List.lt_trans h1 h2) (List.lt_irrefl _)) ha hb hp
theorem set_f (l : List (List Int)) (hv : allv l) (hl : l.length ≤ 1000) : community_Set.f l = some (setE l) := by
  unfold community_Set.f
  rw [if_pos ⟨by omega, List.all_eq_true.2 fun x hx => (ok8_vE x).2 (hv x hx)⟩]
theorem setE_v (l : List (List Int)) (hv : allv l) : allv (setE l) := fun y hy => hv y (((setE_spec l hv).2 y).1 hy)
theorem hasR_iff {b : List (List Int)} {e : List Int} (hb : allv b) (he : vE e) : hasR b e = true ↔ kindR e = 1 ∧ e ∈ b := by
  unfold hasR
  rw [Bool.and_eq_true, decide_eq_true_eq, List.any_eq_true]
  refine and_congr Iff.rfl ⟨?_, fun h => ⟨e, h, es8 e⟩⟩
  rintro ⟨x, hx, h⟩
  rw [(eqA_vE he (hb x hx)).1 h]; exact hx
theorem meetR_iff {a b : List (List Int)} (ha : allv a) (hb : allv b) : meetR a b = true ↔ ∃ e, e ∈ a ∧ kindR e = 1 ∧ e ∈ b := by
  unfold meetR
  rw [List.any_eq_true]
  constructor
  · rintro ⟨e, he, h⟩; exact ⟨e, he, (hasR_iff hb (ha e he)).1 h⟩
  · rintro ⟨e, he, h⟩; exact ⟨e, he, (hasR_iff hb (ha e he)).2 h⟩
theorem meetR_comm {a b : List (List Int)} (ha : allv a) (hb : allv b) : meetR a b = meetR b a := by
  rw [Bool.eq_iff_iff, meetR_iff ha hb, meetR_iff hb ha]
  exact ⟨fun ⟨e, h1, h2, h3⟩ => ⟨e, h3, h2, h1⟩, fun ⟨e, h1, h2, h3⟩ => ⟨e, h3, h2, h1⟩⟩
theorem meetR_set {a b : List (List Int)} (ha : allv a) (hb : allv b) : meetR (setE a) (setE b) = meetR a b := by
  rw [Bool.eq_iff_iff, meetR_iff (setE_v a ha) (setE_v b hb), meetR_iff ha hb]
  simp only [(setE_spec a ha).2, (setE_spec b hb).2]
theorem less_lt8 {x y : List Int} (h : lt8 x y) : Op.bytesLess (bstr (b2s (arL 8 x))).toList (bstr (b2s (arL 8 y))).toList = true := by
  rw [bstr_toList, bstr_toList, ← cmp_less]
  exact decide_eq_true ((sx_lt _ _).2 h)
theorem same_l0 (l : List (List Int)) (hl : l.length ≤ 140737488351232) : ∀ (m k i : Nat), i + m = l.length → m < k → vineryref04_Same.l0 l l k (i : Int) = some (.inr ())
  | 0, k + 1, i, h, _ => by rw [vineryref04_Same.l0, if_neg (by simp; omega)]
  | m + 1, k + 1, i, h, hk => by
    have hi : i < l.length := by omega
    have e : IntKind.i64.wrap ((i : Int) + 1) = ((i + 1 : Nat) : Int) := by rw [IntKind.wrap_i64]; omega
    rw [vineryref04_Same.l0, if_pos (by simp; omega), if_pos (by omega), if_pos (by omega), es8, if_neg (by decide), e, same_l0 l hl m k (i + 1) (by omega) (by omega)]
theorem same_self (k : Nat) (l : List (List Int)) (hl : l.length ≤ 140737488351232) (hk : l.length < k) : vineryref04_Same.f k l l = some true := by
  unfold vineryref04_Same.f
  rw [if_neg (by simp), show ((0 : Int)) = ((0 : Nat) : Int) from rfl, same_l0 l hl l.length k 0 (by omega) hk]
  rfl
theorem sets_l0 (t : List (List Int)) (hl : t.length ≤ 1000) (hs : t.Pairwise lt8) : ∀ (m k i : Nat), t.length ≤ i + m → m < k → 1 ≤ i → i ≤ 2000 → vinerylaw04_CommunitySets.l0 t k (i : Int) = some (.inr ())
  | 0, k + 1, i, h, _, _, _ => by rw [vinerylaw04_CommunitySets.l0, if_neg (by simp; omega)]
  | m + 1, k + 1, i, h, hk, h1, h2 => by
    rw [vinerylaw04_CommunitySets.l0]
    by_cases hi : i < t.length
    · have e : IntKind.i64.wrap ((i : Int) + 1) = ((i + 1 : Nat) : Int) := by rw [IntKind.wrap_i64]; omega
      have e2 : IntKind.i64.wrap ((i : Int) - 1) = ((i - 1 : Nat) : Int) := by rw [IntKind.wrap_i64]; omega
      rw [if_pos (by simp; omega), e2, e, if_pos (by omega), if_pos (by omega), rdx t (i - 1) (by omega), rdx t i hi, less_lt8 (List.pairwise_iff_getElem.1 hs (i - 1) i (by omega) hi (by omega)), if_neg (by decide), sets_l0 t hl hs m k (i + 1) (by omega) (by omega) (by omega) (by omega)]
    · rw [if_neg (by simp; omega)]
theorem CommunitySets.law (l : List (List Int)) (hl : okL 8 (okA .u8 8) l) (m : List (List Int)) (hm : okL 8 (okA .u8 8) m) : ∃ k, vinerylaw04_CommunitySets.f k l m = some true := by
  have lv : allv l := fun y hy => ⟨(hl.2 y hy).1, okA_isB (hl.2 y hy)⟩
  have mv : allv m := fun y hy => ⟨(hm.2 y hy).1, okA_isB (hm.2 y hy)⟩
  refine ⟨3000, ?_⟩
  generalize hk : 3000 = k
  have e1 := small04 (k - 60)
  rw [show k - 60 + 60 = k by omega] at e1
  unfold vinerylaw04_CommunitySets.f
  rw [e1, Option.bind_some]
  by_cases hg : l.length ≤ 60 ∧ m.length ≤ 60
  · have v1 : allv (l ++ m) := fun y hy => (List.mem_append.1 hy).elim (lv y) (mv y)
    have v2 : allv (m ++ l ++ m) := fun y hy => (List.mem_append.1 hy).elim (fun h => (List.mem_append.1 h).elim (mv y) (lv y)) (mv y)
    have heq : setE (m ++ l ++ m) = setE (l ++ m) := by
      refine sets_unique (setE_spec _ v2).1 (setE_spec _ v1).1 fun y => ?_
      rw [(setE_spec _ v2).2, (setE_spec _ v1).2]
      simp only [List.mem_append]
      constructor
      · rintro ((h | h) | h)
        · exact .inr h
        · exact .inl h
        · exact .inr h
      · rintro (h | h)
        · exact .inl (.inr h)
        · exact .inr h
    have hle := setE_len (l ++ m)
    rw [List.length_append] at hle
    have hle1 := setE_len l
    have hle2 := setE_len m
    have hsl := sets_l0 (setE (l ++ m)) (by omega) (setE_spec _ v1).1 (setE (l ++ m)).length k 1 (by omega) (by omega) (by omega) (by omega)
    rw [show ((1 : Nat) : Int) = 1 from rfl] at hsl
    rw [if_neg (by simp; omega), List.nil_append, List.nil_append, if_pos (by simp; omega), if_pos (by omega), set_f (l ++ m) v1 (by simp; omega), Option.bind_some, if_pos (by simp; omega), if_pos (by omega), if_pos (by simp; omega), set_f (m ++ l ++ m) v2 (by simp; omega), Option.bind_some, heq, hsl, Option.bind_some]
    simp only
    rw [meet_ok l m k (by omega) (by omega) (by omega) (by omega), Option.bind_some, if_pos trivial, same_self k _ (by omega) (by omega), Option.bind_some, if_pos rfl, meet_ok m l k (by omega) (by omega) (by omega) (by omega), Option.bind_some, meetR_comm mv lv, if_pos (by simp), set_f l lv (by omega), Option.bind_some, set_f m mv (by omega), Option.bind_some, meet_ok (setE l) (setE m) k (by omega) (by omega) (by omega) (by omega), Option.bind_some, meetR_set lv mv, if_pos (by simp), Option.bind_some]
    have e9 : IntKind.i64.wrap ((l.length : Int) + (m.length : Int)) = ((l.length + m.length : Nat) : Int) := by rw [IntKind.wrap_i64]; omega
    rw [e9, decide_eq_true (by omega)]
  · rw [if_pos (by simp; omega)]
end Go.E
