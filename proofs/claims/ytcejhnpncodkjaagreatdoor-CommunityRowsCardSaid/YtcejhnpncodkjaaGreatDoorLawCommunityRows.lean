/- The plain law: what the walk computes is true, whatever the input. -/
import Derived.Test.YtcejhnpncodkjaaGreatDoorGenCommunityRows
import Derived.Test.YtcejhnpncodkjaaGreatDoorEngR
set_option linter.unusedVariables false
set_option linter.unusedSimpArgs false
namespace Go.E
theorem bstr_toList (l : List UInt8) : (bstr l).toList = l := by rw [ByteArray.toList_eq]; simp [bstr]
theorem u8_tri {x y : UInt8} (h : ¬ x < y) (h' : ¬ y < x) : x = y := UInt8.le_antisymm (UInt8.not_lt.1 h') (UInt8.not_lt.1 h)
theorem cb_cons (x y : UInt8) (xs ys : List UInt8) : Go.Lib.compareBytes (x :: xs) (y :: ys) = if x < y then -1 else if y < x then 1 else Go.Lib.compareBytes xs ys := rfl
theorem cmp_less : ∀ (a b : List UInt8), decide (Go.Lib.compareBytes a b < 0) = Op.bytesLess a b
  | [], [] => rfl
  | [], _ :: _ => rfl
  | _ :: _, [] => rfl
  | x :: xs, y :: ys => by
    rw [cb_cons]
    unfold Op.bytesLess
    by_cases h : x < y
    · simp [h]
    · rw [if_neg h]
      by_cases h' : y < x
      · rw [if_pos h']
        have : x ≠ y := fun e => by subst e; exact UInt8.lt_irrefl _ h'
        simp [h, this]
      · rw [if_neg h', cmp_less xs ys]
        have := u8_tri h h'
        subst this
        simp [h]
/-! orders -/
structure IsCmp {α : Type} (c : α → α → Int) : Prop where
  range : ∀ a b, c a b = -1 ∨ c a b = 0 ∨ c a b = 1
  neg : ∀ a b, c b a = - c a b
  trans : ∀ a b d, c a b ≤ 0 → c b d ≤ 0 → c a d ≤ 0 ∧ (c a b < 0 ∨ c b d < 0 → c a d < 0)
theorem IsCmp.by {α β : Type} {c : β → β → Int} (h : IsCmp c) (f : α → β) : IsCmp (fun a b => c (f a) (f b)) := ⟨fun _ _ => h.range _ _, fun _ _ => h.neg _ _, fun _ _ _ => h.trans _ _ _⟩
theorem clone_ok (l : List Int) (h : l.length ≤ 140737488355328) : bytes_Clone.f l = some l := if_pos h
theorem next_ok (r : S_cursor_rest) (n : Int) (hb : r.bad = false) (h0 : 0 ≤ n) (h1 : n ≤ r.left.length) : cursor_rest_next.f r n = some (r.left.take n.toNat, ⟨r.left.drop n.toNat, false⟩) := by
  unfold cursor_rest_next.f
  have e0 : ¬ n < 0 := by omega
  have e1 : ¬ (r.left.length : Int) < n := by omega
  simp [hb, e0, e1, h0, h1]
theorem take_ok (r : S_cursor_Reader) (n : Int) (hl : r.rest.left.length ≤ 140737488355328) (hb : r.rest.bad = false) (h0 : 0 ≤ n) (h1 : n ≤ r.rest.left.length) :
    cursor_Reader_Take.f r n = some (r.rest.left.take n.toNat, ⟨⟨r.rest.left.drop n.toNat, false⟩⟩) := by
  unfold cursor_Reader_Take.f
  rw [next_ok _ _ hb h0 h1, Option.bind_some, clone_ok _ (by simp; omega)]
  rfl
theorem left_f (r : S_cursor_rest) : cursor_rest_Left.f r = some (if r.bad = true then 0 else (r.left.length : Int)) := by
  unfold cursor_rest_Left.f
  split <;> rfl
def isB (l : List Int) : Prop := ∀ y ∈ l, 0 ≤ y ∧ y ≤ 255
theorem okL_isB {l : List Int} (h : okL 1 (okI .u8) l) : isB l := fun y hy => by
  have := h.2 y hy
  have e1 : IntKind.u8.min = 0 := rfl
  have e2 : IntKind.u8.max = 255 := rfl
  unfold okI at this
  omega
theorem okA_isB {l : List Int} {n : Nat} (h : okA .u8 n l) : isB l := fun y hy => by
  have := h.2 y hy
  have e1 : IntKind.u8.min = 0 := rfl
  have e2 : IntKind.u8.max = 255 := rfl
  unfold okI at this
  omega
theorem okL_len {l : List Int} {ok : Int → Prop} (h : okL 1 ok l) : l.length ≤ 140737488351232 := by have := h.1; unfold reachBytes at this; omega
theorem ar_at (l : List Int) (i : Nat) (hi : i < l.length) : ar l i = l[i] := by simp [ar, List.getD, hi]
theorem arL_self (l : List Int) : arL l.length l = l := by
  apply List.ext_getElem
  · simp [arL]
  · intro i h1 h2
    simp [arL, ar_at l i h2]
/-! route distinguishers -/
theorem arL8 {x : List Int} (h : x.length = 8) : arL 8 x = x := by have := arL_self x; rwa [h] at this

/-! trimming zeros -/
/-! addresses -/
def zeros : List Int := List.replicate 16 0
/-! tunnels -/
theorem ar_isB {x : List Int} (h : isB x) (i : Nat) : 0 ≤ ar x i ∧ ar x i ≤ 255 := by
  by_cases hj : i < x.length
  · rw [ar_at x i hj]; exact h _ (List.getElem_mem hj)
  · have : ar x i = 0 := by simp [ar, List.getD, List.getElem?_eq_none (Nat.not_lt.1 hj)]
    rw [this]; decide
theorem le8_iff (x y : List Int) : le8 x y = true ↔ b2s (arL 8 x) ≤ b2s (arL 8 y) := by
  simp only [le8, cmp8, Bool.not_eq_true', decide_eq_false_iff_not, sx_lt, List.not_lt]
/-- there is one row in order -/
theorem ms_eq {l m : List (List Int)} (hv : ∀ x ∈ l, ok8b x = true) (hp : m.Perm l) (hs : m.Pairwise (fun x y => le8 x y = true)) : l.mergeSort le8 = m := by
  refine List.Perm.eq_of_pairwise (le := fun x y => le8 x y = true) ?_ ?_ hs ((List.mergeSort_perm l le8).trans hp.symm)
  · intro a b ha hb h1 h2
    rw [le8_iff] at h1 h2
    exact ok8_inj (hv a ((List.mergeSort_perm l le8).mem_iff.1 ha)) (hv b (hp.mem_iff.1 hb)) (List.le_antisymm h1 h2)
  · refine List.pairwise_mergeSort ?_ ?_ l
    · intro a b c h1 h2
      rw [le8_iff] at *
      exact List.le_trans h1 h2
    · intro a b
      rw [Bool.or_eq_true, le8_iff, le8_iff]
      exact List.le_total _ _
def smA : List Int := [0, 2, 253, 232, 0, 0, 0, 77]
def smB : List Int := [1, 11, 10, 0, 0, 1, 0, 3]
theorem small_set : community_Set.f [smB, smA, smB] = some [smA, smB] := by
  have h : [smB, smA, smB].mergeSort le8 = [smA, smB, smB] := ms_eq (by decide) (by decide) (by decide)
  unfold community_Set.f
  rw [if_pos (by decide)]
  unfold setE
  rw [h]
  rfl
theorem small04 (k : Nat) : vinerylaw04_small.f (k + 60) = some true := by
  have hT : community_Target.f (k + 60) 0 65000 77 = some (smA, 0) := by kernel_rfl
  have hI : community_Import.f (k + 60) ⟨4, [10, 0, 0, 1, 0, 0, 0, 0, 0, 0, 0, 0, 0, 0, 0, 0]⟩ 3 = some (smB, 0) := by kernel_rfl
  have hC : community_Source.f (k + 60) 65000 = some ([2, 9, 0, 0, 253, 232, 0, 0], 0) := by kernel_rfl
  unfold vinerylaw04_small.f
  rw [hT, Option.bind_some, hI, Option.bind_some, hC, Option.bind_some]
  show (community_Set.f [smB, smA, smB]).bind _ = _
  rw [small_set, Option.bind_some]
  kernel_rfl
theorem es8 (z : List Int) : eqA 8 z z = true := (eqA_iff _ _ _).2 fun _ _ => rfl
def kindR (e : List Int) : Int := if ar e 1 = 2 ∧ ar e 0 ≤ 2 then 1 else if ar e 1 = 11 ∧ ar e 0 = 1 then 2 else if ar e 1 = 9 ∧ ar e 0 = 2 ∧ (IntKind.u8.wrap (BitVec.ofInt IntKind.u8.bits (ar e 6) ||| BitVec.ofInt IntKind.u8.bits (ar e 7)).toNat) = 0 then 3 else 0
theorem and3 (p q : Prop) [Decidable p] [Decidable q] (x y : Bool) (hx : x = true ↔ p) (hy : y = true ↔ q) : (if x = true then some (y : Bool) else some false) = some (decide (p ∧ q)) := by
  by_cases hp : p <;> by_cases hq : q <;> simp_all
theorem kind_ok (e : List Int) : community_Kind.f e = some (kindR e) := by
  unfold community_Kind.f kindR
  have h1 := and3 (ar e 1 = 2) (ar e 0 ≤ 2) (ar e 1 == 2) (decide (ar e 0 ≤ 2)) (by simp) (by simp)
  have h2 := and3 (ar e 1 = 11) (ar e 0 = 1) (ar e 1 == 11) (ar e 0 == 1) (by simp) (by simp)
  have h3 : (if (ar e 1 == (9 : Int)) = true then (if (ar e 0 == (2 : Int)) = true then some ((IntKind.u8.wrap (BitVec.ofInt IntKind.u8.bits (ar e 6) ||| BitVec.ofInt IntKind.u8.bits (ar e 7)).toNat) == (0 : Int) : Bool) else some (false : Bool)) else some (false : Bool)) = some (decide (ar e 1 = 9 ∧ ar e 0 = 2 ∧ (IntKind.u8.wrap (BitVec.ofInt IntKind.u8.bits (ar e 6) ||| BitVec.ofInt IntKind.u8.bits (ar e 7)).toNat) = 0)) := by
    generalize (IntKind.u8.wrap (BitVec.ofInt IntKind.u8.bits (ar e 6) ||| BitVec.ofInt IntKind.u8.bits (ar e 7)).toNat : Int) = q
    by_cases p1 : ar e 1 = 9 <;> by_cases p2 : ar e 0 = 2 <;> by_cases p3 : q = 0 <;> simp_all
  rw [h1, Option.bind_some]
  by_cases c1 : ar e 1 = 2 ∧ ar e 0 ≤ 2
  · rw [if_pos (decide_eq_true c1), if_pos c1]
  · rw [if_neg (by simpa using c1), if_neg c1, h2, Option.bind_some]
    by_cases c2 : ar e 1 = 11 ∧ ar e 0 = 1
    · rw [if_pos (decide_eq_true c2), if_pos c2]
    · rw [if_neg (by simpa using c2), if_neg c2, h3, Option.bind_some]
      split
      · rename_i c3; rw [if_pos (of_decide_eq_true c3)]
      · rename_i c3; rw [if_neg (by simpa using c3)]
theorem rdx {α : Type} [Inhabited α] (l : List α) (i : Nat) (hi : i < l.length) : rd l (i : Int) = l[i] := by simp [rd, List.getD, hi]
def yes (r : Int ⊕ Unit) : Bool := match r with | .inl j => decide (j ≥ 0) | .inr _ => false
theorem ind_l0 (l : List (List Int)) (v : List Int) (hl : l.length ≤ 140737488351232) : ∀ (m k i : Nat), i + m = l.length → m < k → ∃ r, slices_Index_Ext.l0 l v k (i : Int) = some r ∧ yes r = (l.drop i).any (eqA 8 v)
  | 0, k + 1, i, h, _ => ⟨.inr (), by rw [slices_Index_Ext.l0, if_neg (by simp; omega)], by rw [List.drop_eq_nil_of_le (by omega)]; rfl⟩
  | m + 1, k + 1, i, h, hk => by
    have hi : i < l.length := by omega
    rw [slices_Index_Ext.l0, if_pos (by simp; omega), if_pos (by omega), rdx l i hi, List.drop_eq_getElem_cons hi, List.any_cons]
    by_cases he : eqA 8 v l[i] = true
    · exact ⟨.inl i, by rw [if_pos he], by rw [he]; simp [yes]⟩
    · obtain ⟨r, h1, h2⟩ := ind_l0 l v hl m k (i + 1) (by omega) (by omega)
      have e : IntKind.i64.wrap ((i : Int) + 1) = ((i + 1 : Nat) : Int) := by rw [IntKind.wrap_i64]; omega
      exact ⟨r, by rw [if_neg he, e, h1], by rw [h2]; simp [he]⟩
theorem cont_ok (l : List (List Int)) (v : List Int) (k : Nat) (hl : l.length ≤ 140737488351232) (hk : l.length < k) : slices_Contains_Ext.f k l v = some (l.any (eqA 8 v)) := by
  obtain ⟨r, h1, h2⟩ := ind_l0 l v hl l.length k 0 (by omega) hk
  unfold slices_Contains_Ext.f slices_Index_Ext.f
  rw [show ((0 : Int)) = ((0 : Nat) : Int) from rfl, h1]
  rw [List.drop_zero] at h2
  rw [← h2]
  cases r <;> rfl
def hasR (b : List (List Int)) (e : List Int) : Bool := decide (kindR e = 1) && b.any (eqA 8 e)
def meetR (a b : List (List Int)) : Bool := a.any (hasR b)
theorem meet1_ok (k : Nat) (e : List Int) (b : List (List Int)) (hl : b.length ≤ 140737488351232) (hk : b.length < k) : community_Meet_1.f k e b = some (hasR b e) := by
  unfold community_Meet_1.f hasR
  rw [kind_ok, Option.bind_some]
  by_cases h : kindR e = 1
  · rw [if_pos (by simp [h]), cont_ok b e k hl hk]; simp [h]
  · rw [if_neg (by simp [h])]; simp [h]
theorem indf_l0 (b : List (List Int)) (k0 : Nat) (hb : b.length ≤ 140737488351232) (hk0 : b.length < k0) (l : List (List Int)) (hl : l.length ≤ 140737488351232) : ∀ (m k i : Nat), i + m = l.length → m < k → ∃ r, slices_IndexFunc_Ext_community_Meet_1.l0 k0 l b k (i : Int) = some r ∧ yes r = (l.drop i).any (hasR b)
  | 0, k + 1, i, h, _ => ⟨.inr (), by rw [slices_IndexFunc_Ext_community_Meet_1.l0, if_neg (by simp; omega)], by rw [List.drop_eq_nil_of_le (by omega)]; rfl⟩
  | m + 1, k + 1, i, h, hk => by
    have hi : i < l.length := by omega
    rw [slices_IndexFunc_Ext_community_Meet_1.l0, if_pos (by simp; omega), if_pos (by omega), rdx l i hi, meet1_ok k0 _ b hb hk0, Option.bind_some, List.drop_eq_getElem_cons hi, List.any_cons]
    by_cases he : hasR b l[i] = true
    · exact ⟨.inl i, by rw [if_pos he], by rw [he]; simp [yes]⟩
    · obtain ⟨r, h1, h2⟩ := indf_l0 b k0 hb hk0 l hl m k (i + 1) (by omega) (by omega)
      have e : IntKind.i64.wrap ((i : Int) + 1) = ((i + 1 : Nat) : Int) := by rw [IntKind.wrap_i64]; omega
      exact ⟨r, by rw [if_neg he, e, h1], by rw [h2]; simp [he]⟩
theorem meet_ok (a b : List (List Int)) (k : Nat) (ha : a.length ≤ 140737488351232) (hb : b.length ≤ 140737488351232) (hka : a.length < k) (hkb : b.length < k) : community_Meet.f k a b = some (meetR a b) := by
  obtain ⟨r, h1, h2⟩ := indf_l0 b k hb hkb a ha a.length k 0 (by omega) hka
  unfold community_Meet.f slices_ContainsFunc_Ext_community_Meet_1.f slices_IndexFunc_Ext_community_Meet_1.f meetR
  rw [show ((0 : Int)) = ((0 : Nat) : Int) from rfl, h1]
  rw [List.drop_zero] at h2
  rw [← h2]
  cases r <;> rfl
def vE (e : List Int) : Prop := e.length = 8 ∧ isB e
theorem list8 (e : List Int) (h : e.length = 8) : ∃ a b c d p q r s : Int, e = [a, b, c, d, p, q, r, s] := by
  match e, h with
  | [a, b, c, d, p, q, r, s], _ => exact ⟨a, b, c, d, p, q, r, s, rfl⟩
def allv (l : List (List Int)) : Prop := ∀ y ∈ l, vE y
theorem flat8 : ∀ (l : List (List Int)), allv l → (l.flatten).length = 8 * l.length
  | [], _ => rfl
  | x :: l, h => by
    rw [List.flatten_cons, List.length_append, flat8 l (fun y hy => h y (List.mem_cons_of_mem _ hy)), (h x (List.mem_cons_self)).1, List.length_cons]; omega
theorem bytes_l0 (l : List (List Int)) (hv : allv l) (hl : l.length * 8 ≤ 140737488351232) : ∀ (m i k : Nat) (out : List Int), i + m = l.length → m < k → out.length = 8 * i → community_Bytes.l0 l k out (i : Int) = some (out ++ (l.drop i).flatten)
  | 0, i, k + 1, out, hi, _, _ => by rw [community_Bytes.l0, if_neg (by simp; omega), List.drop_eq_nil_of_le (by omega)]; simp
  | m + 1, i, k + 1, out, hi, hk, ho => by
    have hil : i < l.length := by omega
    have hx := hv l[i] (List.getElem_mem hil)
    have e : IntKind.i64.wrap ((i : Int) + 1) = ((i + 1 : Nat) : Int) := by rw [IntKind.wrap_i64]; omega
    rw [community_Bytes.l0, if_pos (by simp; omega), if_pos (by omega), rdx l i hil, arL8 hx.1, if_pos (by rw [hx.1]; omega), e, bytes_l0 l hv hl m (i + 1) k _ (by omega) (by omega) (by rw [List.length_append, hx.1]; omega), List.drop_eq_getElem_cons hil, List.flatten_cons, List.append_assoc]
theorem bytes_ok (k : Nat) (l : List (List Int)) (hv : allv l) (hl : l.length * 8 ≤ 140737488351232) (hk : l.length < k) : community_Bytes.f k l = some l.flatten := by
  have := bytes_l0 l hv hl l.length 0 k [] (by omega) hk rfl
  unfold community_Bytes.f
  rw [show ((0 : Int)) = ((0 : Nat) : Int) from rfl, this, Option.bind_some, List.drop_zero, List.nil_append]
theorem arC8c (x : List Int) (h : x.length = 8) : arC 8 (List.replicate 8 (0 : Int)) x = x := by
  obtain ⟨a, b, c, d, p, q, r, s, rfl⟩ := list8 x h
  rfl
theorem read_l0 : ∀ (r : List (List Int)) (acc : List (List Int)) (k : Nat), allv r → (acc.length + r.length) * 8 ≤ 140737488351232 → r.length < k → community_Read.l0 k acc r.flatten false = some (acc ++ r, [], false)
  | [], acc, k + 1, _, _, _ => by
    rw [community_Read.l0, left_f]; simp
  | x :: r, acc, k + 1, hv, hl, hk => by
    have hx := hv x (List.mem_cons_self)
    have hr : allv r := fun y hy => hv y (List.mem_cons_of_mem _ hy)
    have fl := flat8 r hr
    rw [List.length_cons] at hl hk
    have len : (x ++ r.flatten).length = 8 + 8 * r.length := by rw [List.length_append, hx.1, fl]
    rw [community_Read.l0, left_f, Option.bind_some, List.flatten_cons]
    simp only [Bool.false_eq_true, if_false]
    rw [if_pos (by rw [len]; simp; omega), take_ok ⟨⟨x ++ r.flatten, false⟩⟩ 8 (by show (x ++ r.flatten).length ≤ _; omega) rfl (by decide) (by show (8 : Int) ≤ ((x ++ r.flatten).length : Int); omega), Option.bind_some]
    have t1 : (x ++ r.flatten).take (Int.toNat (8 : Int)) = x := by rw [show Int.toNat (8 : Int) = x.length from hx.1.symm, List.take_left]
    have t2 : (x ++ r.flatten).drop (Int.toNat (8 : Int)) = r.flatten := by rw [show Int.toNat (8 : Int) = x.length from hx.1.symm, List.drop_left]
    simp only [t1, t2]
    rw [if_pos (by simp only [List.length_singleton]; omega), arC8c x hx.1, read_l0 r (acc ++ [x]) k hr (by simp; omega) (by omega)]
    simp
theorem read_ok (k : Nat) (r : List (List Int)) (hv : allv r) (hl : r.length * 8 ≤ 140737488351232) (hk : r.length < k) : community_Read.f k r.flatten = some (r, 0) := by
  have fl := flat8 r hv
  unfold community_Read.f cursor_Open.f
  have e : Int.tmod ((r.flatten).length : Int) 8 = 0 := by
    rw [fl, show Int.tmod (((8 * r.length : Nat)) : Int) 8 = (((8 * r.length) % 8 : Nat) : Int) from rfl]; omega
  rw [e, if_neg (by decide), clone_ok _ (by omega), Option.bind_some, Option.bind_some]
  simp only
  rw [read_l0 r [] k hv (by simp; omega) hk, Option.bind_some, List.nil_append]
theorem same_l0 (l : List (List Int)) (hl : l.length ≤ 140737488351232) : ∀ (m k i : Nat), i + m = l.length → m < k → vineryref04_Same.l0 l l k (i : Int) = some (.inr ())
  | 0, k + 1, i, h, _ => by rw [vineryref04_Same.l0, if_neg (by simp; omega)]
  | m + 1, k + 1, i, h, hk => by
    have hi : i < l.length := by omega
    have e : IntKind.i64.wrap ((i : Int) + 1) = ((i + 1 : Nat) : Int) := by rw [IntKind.wrap_i64]; omega
    rw [vineryref04_Same.l0, if_pos (by simp; omega), if_pos (by omega), if_pos (by omega), es8, if_neg (by decide), e, same_l0 l hl m k (i + 1) (by omega) (by omega)]
theorem same_self (k : Nat) (l : List (List Int)) (hl : l.length ≤ 140737488351232) (hk : l.length < k) : vineryref04_Same.f k l l = some true := by
  unfold vineryref04_Same.f
  rw [if_neg (by simp), show ((0 : Int)) = ((0 : Nat) : Int) from rfl, same_l0 l hl l.length k 0 (by omega) hk]
  rfl
theorem ok8_vE (x : List Int) : ok8b x = true ↔ vE x := by
  simp only [ok8b, vE, isB, Bool.and_eq_true, beq_iff_eq, List.all_eq_true, decide_eq_true_eq]
  constructor
  · rintro ⟨h, h2⟩; exact ⟨h, fun y hy => ⟨(h2 y hy).1, by have := (h2 y hy).2; omega⟩⟩
  · rintro ⟨h, h2⟩; exact ⟨h, fun y hy => ⟨(h2 y hy).1, by have := (h2 y hy).2; omega⟩⟩
theorem eqA_vE {x y : List Int} (hx : vE x) (hy : vE y) : eqA 8 x y = true ↔ x = y := by
  rw [eqA_iff]
  constructor
  · intro h
    apply List.ext_getElem (by rw [hx.1, hy.1])
    intro i h1 h2
    have := h i (by rw [hx.1] at h1; exact h1)
    rwa [ar_at _ _ h1, ar_at _ _ h2] at this
  · rintro rfl i _; rfl
def lt8 (x y : List Int) : Prop := b2s (arL 8 x) < b2s (arL 8 y)
theorem lt8_irrefl (x : List Int) : ¬ lt8 x x := List.lt_irrefl _
theorem lt8_of {x y : List Int} (hx : vE x) (hy : vE y) (h : le8 x y = true) (hn : x ≠ y) : lt8 x y := by
  rw [le8_iff] at h
  by_cases hl : b2s (arL 8 x) < b2s (arL 8 y)
  · exact hl
  · exact absurd (ok8_inj ((ok8_vE x).2 hx) ((ok8_vE y).2 hy) (List.le_antisymm h (List.not_lt.1 hl))) hn
theorem le_lt8 {x y z : List Int} (h : le8 x y = true) (h2 : lt8 y z) : lt8 x z := by
  rw [le8_iff] at h
  exact List.lt_of_le_of_lt h h2
theorem sorted8 (l : List (List Int)) : (l.mergeSort le8).Pairwise (fun x y => le8 x y = true) := by
  refine List.pairwise_mergeSort ?_ ?_ l
  · intro a b c h1 h2
    rw [le8_iff] at *
    exact List.le_trans h1 h2
  · intro a b
    rw [Bool.or_eq_true, le8_iff, le8_iff]
    exact List.le_total _ _
theorem dd_inv (xs : List (List Int)) (hv : allv xs) (hs : xs.Pairwise (fun x y => le8 x y = true)) : ∀ m, m ≤ xs.length → (ddT xs m).Pairwise lt8 ∧ ∀ y, y ∈ ddT xs m ↔ y ∈ xs.take m
  | 0, _ => ⟨by simp [ddT], by simp [ddT]⟩
  | m + 1, hm => by
    obtain ⟨ih1, ih2⟩ := dd_inv xs hv hs m (by omega)
    have hml : m < xs.length := by omega
    have hg : xs.getD m [] = xs[m] := by rw [List.getD_eq_getElem?_getD, List.getElem?_eq_getElem hml]; rfl
    have ht : xs.take (m + 1) = xs.take m ++ [xs[m]] := by rw [List.take_add_one, List.getElem?_eq_getElem hml]; rfl
    rw [ddT_succ, hg, ht]
    by_cases hk : keep8 xs m = true
    · rw [if_pos hk]
      refine ⟨?_, fun y => by rw [List.mem_append, List.mem_append, ih2]⟩
      rw [List.pairwise_append]
      refine ⟨ih1, List.pairwise_singleton _ _, fun y hy z hz => ?_⟩
      rw [List.mem_singleton] at hz
      subst hz
      have hy := (ih2 y).1 hy
      obtain ⟨j, hj, rfl⟩ := List.getElem_of_mem hy
      have hjm : j < m := by rw [List.length_take] at hj; omega
      rw [List.getElem_take]
      have hm1 : m - 1 < xs.length := by omega
      have hg1 : xs.getD (m - 1) [] = xs[m - 1] := by rw [List.getD_eq_getElem?_getD, List.getElem?_eq_getElem hm1]; rfl
      have hne : xs[m - 1] ≠ xs[m] := by
        intro e
        unfold keep8 at hk
        have : (m == 0) = false := by simp; omega
        rw [this, hg, hg1, e, es8] at hk
        cases hk
      have l1 : lt8 xs[m - 1] xs[m] := lt8_of (hv _ (List.getElem_mem _)) (hv _ (List.getElem_mem _)) (List.pairwise_iff_getElem.1 hs (m - 1) m hm1 hml (by omega)) hne
      by_cases hj1 : j = m - 1
      · subst hj1; exact l1
      · exact le_lt8 (List.pairwise_iff_getElem.1 hs j (m - 1) (by omega) hm1 (by omega)) l1
    · rw [if_neg hk, List.append_nil]
      refine ⟨ih1, fun y => ?_⟩
      rw [ih2, List.mem_append, List.mem_singleton]
      refine ⟨.inl, fun h => h.elim id fun e => ?_⟩
      have hm0 : m ≠ 0 := by
        intro e0
        subst e0
        exact hk rfl
      have hm1 : m - 1 < xs.length := by omega
      have hg1 : xs.getD (m - 1) [] = xs[m - 1] := by rw [List.getD_eq_getElem?_getD, List.getElem?_eq_getElem hm1]; rfl
      have he : eqA 8 xs[m] xs[m - 1] = true := by
        unfold keep8 at hk
        have : (m == 0) = false := by simpa using hm0
        rw [this, hg, hg1] at hk
        simpa using hk
      rw [e, (eqA_vE (hv _ (List.getElem_mem _)) (hv _ (List.getElem_mem _))).1 he]
      exact List.mem_take_iff_getElem.2 ⟨m - 1, by omega, rfl⟩
theorem setE_spec (l : List (List Int)) (hv : allv l) : (setE l).Pairwise lt8 ∧ ∀ y, y ∈ setE l ↔ y ∈ l := by
  have hp := List.mergeSort_perm l le8
  have hl : (l.mergeSort le8).length = l.length := hp.length_eq
  have := dd_inv (l.mergeSort le8) (fun y hy => hv y (hp.mem_iff.1 hy)) (sorted8 l) l.length (by omega)
  refine ⟨this.1, fun y => ?_⟩
  rw [← hp.mem_iff]
  have h2 := this.2 y
  rw [← hl, List.take_length] at h2
  unfold setE
  rw [← hl]
  exact h2
theorem sets_unique {a b : List (List Int)} (ha : a.Pairwise lt8) (hb : b.Pairwise lt8) (h : ∀ y, y ∈ a ↔ y ∈ b) : a = b := by
  have nd : ∀ {c : List (List Int)}, c.Pairwise lt8 → c.Nodup := fun hc => hc.imp fun {x y} hxy e => by subst e; exact lt8_irrefl _ hxy
  have hp : a.Perm b := (List.perm_ext_iff_of_nodup (nd ha) (nd hb)).2 h
  exact List.Perm.eq_of_pairwise (le := lt8) (fun x y _ _ h1 h2 => absurd (List.lt_trans h1 h2) (List.lt_irrefl _)) ha hb hp
theorem set_f (l : List (List Int)) (hv : allv l) (hl : l.length ≤ 1000) : community_Set.f l = some (setE l) := by
  unfold community_Set.f
  rw [if_pos ⟨by omega, List.all_eq_true.2 fun x hx => (ok8_vE x).2 (hv x hx)⟩]
theorem or_0 (x y : Int) (hx : 0 ≤ x ∧ x ≤ 255) (hy : 0 ≤ y ∧ y ≤ 255) : (IntKind.u8.wrap (BitVec.ofInt IntKind.u8.bits x ||| BitVec.ofInt IntKind.u8.bits y).toNat = 0) ↔ x = 0 ∧ y = 0 := by
  have h1 : (x % ((2 ^ 8 : Nat) : Int)).toNat = x.toNat := by
    have : ((2 ^ 8 : Nat) : Int) = 256 := rfl
    omega
  have h2 : (y % ((2 ^ 8 : Nat) : Int)).toNat = y.toNat := by
    have : ((2 ^ 8 : Nat) : Int) = 256 := rfl
    omega
  have hlt : x.toNat ||| y.toNat < 2 ^ 8 := Nat.or_lt_two_pow (by omega) (by omega)
  rw [BitVec.toNat_or, BitVec.toNat_ofInt, BitVec.toNat_ofInt, show IntKind.u8.bits = 8 from rfl, h1, h2, IntKind.wrap_u8]
  constructor
  · intro h
    have : x.toNat ||| y.toNat = 0 := by omega
    rw [Nat.or_eq_zero_iff] at this
    omega
  · rintro ⟨rfl, rfl⟩; rfl
theorem rkind_ok (e : List Int) (hB : isB e) : vineryref04_Kind.f e = some (kindR e) := by
  unfold vineryref04_Kind.f kindR
  have h1 := and3 (ar e 1 = 2) (ar e 0 ≤ 2) (ar e 1 == 2) (decide (ar e 0 ≤ 2)) (by simp) (by simp)
  have h2 := and3 (ar e 0 = 1) (ar e 1 = 11) (ar e 0 == 1) (ar e 1 == 11) (by simp) (by simp)
  have ho := or_0 _ _ (ar_isB hB 6) (ar_isB hB 7)
  have h3 : (if ((ar e 0) == (2 : Int)) = true then (if ((ar e 1) == (9 : Int)) = true then (if ((ar e 6) == (0 : Int)) = true then some ((ar e 7) == (0 : Int) : Bool) else some (false : Bool)) else some (false : Bool)) else some (false : Bool)) = some (decide (ar e 1 = 9 ∧ ar e 0 = 2 ∧ (IntKind.u8.wrap (BitVec.ofInt IntKind.u8.bits (ar e 6) ||| BitVec.ofInt IntKind.u8.bits (ar e 7)).toNat) = 0)) := by
    generalize (IntKind.u8.wrap (BitVec.ofInt IntKind.u8.bits (ar e 6) ||| BitVec.ofInt IntKind.u8.bits (ar e 7)).toNat : Int) = q at ho ⊢
    by_cases p1 : ar e 1 = 9 <;> by_cases p2 : ar e 0 = 2 <;> by_cases p3 : ar e 6 = 0 <;> by_cases p4 : ar e 7 = 0 <;> simp_all
  rw [h1, Option.bind_some]
  by_cases c1 : ar e 1 = 2 ∧ ar e 0 ≤ 2
  · rw [if_pos (decide_eq_true c1), if_pos c1]
  · rw [if_neg (by simpa using c1), if_neg c1, h2, Option.bind_some]
    by_cases c2 : ar e 1 = 11 ∧ ar e 0 = 1
    · rw [if_pos (decide_eq_true ⟨c2.2, c2.1⟩), if_pos c2]
    · rw [if_neg (by rw [decide_eq_true_eq]; exact fun h => c2 ⟨h.2, h.1⟩), if_neg c2, h3, Option.bind_some]
      split
      · rename_i c3; rw [if_pos (of_decide_eq_true c3)]
      · rename_i c3; rw [if_neg (by simpa using c3)]
theorem comm_ofRx (k : Nat) (a b c d e f g h : Int) : vineryref04_of.f (k + 20) [a, b, c, d, e, f, g, h] = some [a, b, c, d, e, f, g, h] := by kernel_rfl
theorem comm_ofR (k : Nat) (b : List Int) (hb : b.length = 8) : vineryref04_of.f (k + 20) b = some b := by
  match b, hb with
  | [a, b, c, d, e, f, g, h], _ => exact comm_ofRx k a b c d e f g h
theorem chunks : ∀ (q : Nat) (b : List Int), isB b → b.length = 8 * q → ∃ r, allv r ∧ r.flatten = b ∧ r.length = q
  | 0, b, _, h => ⟨[], (fun _ h => nomatch h), by rw [List.eq_nil_of_length_eq_zero (l := b) (by omega)]; rfl, rfl⟩
  | q + 1, b, hB, h => by
    obtain ⟨r, h1, h2, h3⟩ := chunks q (b.drop 8) (fun y hy => hB y (List.mem_of_mem_drop hy)) (by rw [List.length_drop]; omega)
    refine ⟨b.take 8 :: r, fun y hy => ?_, by rw [List.flatten_cons, h2, List.take_append_drop], by rw [List.length_cons, h3]⟩
    rcases List.mem_cons.1 hy with rfl | hy
    · exact ⟨by rw [List.length_take]; omega, fun y hy => hB y (List.mem_of_mem_take hy)⟩
    · exact h1 y hy
theorem rbytes_l0 (l : List (List Int)) (hv : allv l) (hl : l.length * 8 ≤ 140737488351232) : ∀ (m i k : Nat) (out : List Int), i + m = l.length → m < k → out.length = 8 * i → vineryref04_Bytes.l0 l k out (i : Int) = some (out ++ (l.drop i).flatten)
  | 0, i, k + 1, out, hi, _, _ => by rw [vineryref04_Bytes.l0, if_neg (by simp; omega), List.drop_eq_nil_of_le (by omega)]; simp
  | m + 1, i, k + 1, out, hi, hk, ho => by
    have hil : i < l.length := by omega
    have hx := hv l[i] (List.getElem_mem hil)
    have e : IntKind.i64.wrap ((i : Int) + 1) = ((i + 1 : Nat) : Int) := by rw [IntKind.wrap_i64]; omega
    rw [vineryref04_Bytes.l0, if_pos (by simp; omega), if_pos (by omega), rdx l i hil, arL8 hx.1, if_pos (by rw [hx.1]; omega), e, rbytes_l0 l hv hl m (i + 1) k _ (by omega) (by omega) (by rw [List.length_append, hx.1]; omega), List.drop_eq_getElem_cons hil, List.flatten_cons, List.append_assoc]
theorem rbytes_ok (k : Nat) (l : List (List Int)) (hv : allv l) (hl : l.length * 8 ≤ 140737488351232) (hk : l.length < k) : vineryref04_Bytes.f k l = some l.flatten := by
  have := rbytes_l0 l hv hl l.length 0 k [] (by omega) hk rfl
  unfold vineryref04_Bytes.f
  rw [show ((0 : Int)) = ((0 : Nat) : Int) from rfl, this, Option.bind_some, List.drop_zero, List.nil_append]
theorem rread_l0 (K : Nat) (hK : 20 ≤ K) (b : List Int) (hb : b.length ≤ 140737488351232) : ∀ (r : List (List Int)) (acc : List (List Int)) (i k : Nat), allv r → b.drop i = r.flatten → i + 8 * r.length = b.length → (acc.length + r.length) * 8 ≤ 140737488351232 → r.length < k → vineryref04_Read.l0 K b k acc (i : Int) = some (acc ++ r)
  | [], acc, i, k + 1, _, _, hi, _, _ => by
    rw [List.length_nil] at hi
    rw [vineryref04_Read.l0, if_neg (by simp; omega), List.append_nil]
  | x :: r, acc, i, k + 1, hv, hd, hi, hl, hk => by
    have hx := hv x (List.mem_cons_self)
    have hr : allv r := fun y hy => hv y (List.mem_cons_of_mem _ hy)
    rw [List.length_cons] at hl hk hi
    have e : IntKind.i64.wrap ((i : Int) + 8) = ((i + 8 : Nat) : Int) := by rw [IntKind.wrap_i64]; omega
    rw [List.flatten_cons] at hd
    have hs : (b.take (i + 8)).drop i = x := by
      rw [List.drop_take, hd, show i + 8 - i = x.length by rw [hx.1]; omega, List.take_left]
    have hd2 : b.drop (i + 8) = r.flatten := by
      rw [← List.drop_drop, hd, show 8 = x.length from hx.1.symm, List.drop_left]
    have ho := comm_ofR (K - 20) x hx.1
    rw [show K - 20 + 20 = K by omega] at ho
    rw [vineryref04_Read.l0, if_pos (by simp; omega), e, if_pos (by omega), Int.toNat_natCast, Int.toNat_natCast, hs, ho, Option.bind_some, if_pos (by simp only [List.length_singleton]; omega), rread_l0 K hK b hb r (acc ++ [x]) (i + 8) k hr hd2 (by omega) (by simp; omega) (by omega)]
    simp
theorem rread_ok (k : Nat) (r : List (List Int)) (hv : allv r) (hl : r.length * 8 ≤ 140737488351232) (hk : r.length < k) (h20 : 20 ≤ k) : vineryref04_Read.f k r.flatten = some (r, 0) := by
  have fl := flat8 r hv
  unfold vineryref04_Read.f
  have e : Int.tmod ((r.flatten).length : Int) 8 = 0 := by
    rw [fl, show Int.tmod (((8 * r.length : Nat)) : Int) 8 = (((8 * r.length) % 8 : Nat) : Int) from rfl]; omega
  rw [e, if_neg (by decide), show ((0 : Int)) = ((0 : Nat) : Int) from rfl, rread_l0 k h20 r.flatten (by omega) r [] 0 k hv (by simp) (by omega) (by simp; omega) hk, Option.bind_some, List.nil_append]
theorem reads_same (k : Nat) (b : List Int) (hB : isB b) (hl : b.length ≤ 140737488351232) (hk : b.length + 100 ≤ k) : ∃ r e, community_Read.f k b = some (r, e) ∧ vineryref04_Read.f k b = some (r, e) ∧ r.length ≤ b.length := by
  by_cases h8 : b.length % 8 = 0
  · obtain ⟨r, rv, rfl, rl⟩ := chunks (b.length / 8) b hB (by omega)
    have fl := flat8 r rv
    exact ⟨r, 0, read_ok k r rv (by omega) (by omega), rread_ok k r rv (by omega) (by omega) (by omega), by omega⟩
  · have e : ((Int.tmod (b.length : Int) 8) != (0 : Int)) = true := by
      rw [show Int.tmod (b.length : Int) 8 = ((b.length % 8 : Nat) : Int) from rfl]; simp; omega
    refine ⟨[], 4, ?_, ?_, Nat.zero_le _⟩
    · unfold community_Read.f; rw [if_pos e]
    · unfold vineryref04_Read.f; rw [if_pos e]
/-! the document's Set -/
def ltb (x y : List Int) : Bool := Op.bytesLess (bstr (b2s (arL 8 x))).toList (bstr (b2s (arL 8 y))).toList
theorem ltb_iff (x y : List Int) : ltb x y = true ↔ lt8 x y := by
  unfold ltb lt8
  rw [bstr_toList, bstr_toList, ← cmp_less, decide_eq_true_eq, sx_lt]
def insR (out : List (List Int)) (x : List Int) : List (List Int) :=
  if (out.dropWhile (ltb · x)).head? = some x then out else out.takeWhile (ltb · x) ++ x :: out.dropWhile (ltb · x)
theorem tw_imp {p : List Int → Bool} : ∀ {l : List (List Int)} {a : List Int}, a ∈ l.takeWhile p → p a = true
  | [], _, h => nomatch h
  | x :: l, a, h => by
    rw [List.takeWhile_cons] at h
    by_cases hx : p x = true
    · rw [if_pos hx] at h
      rcases List.mem_cons.1 h with rfl | h
      · exact hx
      · exact tw_imp h
    · rw [if_neg hx] at h; cases h
theorem ins_mem (out : List (List Int)) (x : List Int) : ∀ y, y ∈ insR out x ↔ y ∈ out ∨ y = x := by
  intro y
  have ht := List.takeWhile_append_dropWhile (p := (ltb · x)) (l := out)
  unfold insR
  by_cases h : (out.dropWhile (ltb · x)).head? = some x
  · rw [if_pos h]
    refine ⟨.inl, fun hy => hy.elim id fun e => ?_⟩
    rw [e, ← ht]
    exact List.mem_append_right _ (List.mem_of_mem_head? h)
  · rw [if_neg h]
    conv => rhs; rw [← ht]
    simp only [List.mem_append, List.mem_cons]
    constructor
    · rintro (h | h | h)
      · exact .inl (.inl h)
      · exact .inr h
      · exact .inl (.inr h)
    · rintro ((h | h) | h)
      · exact .inl h
      · exact .inr (.inr h)
      · exact .inr (.inl h)
theorem lt8_tri {x y : List Int} (hx : vE x) (hy : vE y) (h1 : ¬ lt8 x y) (h2 : x ≠ y) : lt8 y x := by
  by_cases h : lt8 y x
  · exact h
  · exact absurd (ok8_inj ((ok8_vE x).2 hx) ((ok8_vE y).2 hy) (List.le_antisymm (List.not_lt.1 h) (List.not_lt.1 h1))) h2
theorem ins_sorted (out : List (List Int)) (ho : allv out) (x : List Int) (hx : vE x) (hs : out.Pairwise lt8) : (insR out x).Pairwise lt8 := by
  unfold insR
  by_cases h : (out.dropWhile (ltb · x)).head? = some x
  · rw [if_pos h]; exact hs
  · rw [if_neg h]
    have ht := List.takeWhile_append_dropWhile (p := (ltb · x)) (l := out)
    have hs2 := hs
    rw [← ht, List.pairwise_append] at hs2
    obtain ⟨s1, s2, s3⟩ := hs2
    have hd : ∀ y ∈ out.dropWhile (ltb · x), lt8 x y := by
      cases hdw : out.dropWhile (ltb · x) with
      | nil => exact fun _ h => nomatch h
      | cons z zs =>
        rw [hdw] at h s2
        have hz : ¬ lt8 z x := by
          have := List.head?_dropWhile_not (p := (ltb · x)) (l := out)
          rw [hdw] at this
          rw [← ltb_iff]
          simpa using this
        have hzv : vE z := ho z ((List.dropWhile_sublist (p := (ltb · x)) (l := out)).subset (by rw [hdw]; exact List.mem_cons_self))
        have hxz : lt8 x z := lt8_tri hzv hx hz (fun e => h (by rw [e]; rfl))
        intro y hy
        rcases List.mem_cons.1 hy with rfl | hy
        · exact hxz
        · exact List.lt_trans hxz ((List.pairwise_cons.1 s2).1 y hy)
    rw [List.pairwise_append]
    refine ⟨s1, List.pairwise_cons.2 ⟨hd, s2⟩, fun a ha b hb => ?_⟩
    have hax : lt8 a x := (ltb_iff a x).1 (tw_imp (p := (ltb · x)) ha)
    rcases List.mem_cons.1 hb with rfl | hb
    · exact hax
    · exact s3 a ha b hb
theorem rset_l1 (l out : List (List Int)) (j : Nat) (hj : j < l.length) (ho : out.length ≤ 1000) : ∀ (m k i : Nat), i + m = out.length → m < k → vineryref04_Set.l1 l out (j : Int) k (i : Int) = some ((i + ((out.drop i).takeWhile (ltb · l[j])).length : Nat) : Int)
  | 0, k + 1, i, h, _ => by
    rw [vineryref04_Set.l1, if_neg (by simp; omega), Option.bind_some, if_neg (by decide), List.drop_eq_nil_of_le (by omega)]
    simp
  | m + 1, k + 1, i, h, hk => by
    have hi : i < out.length := by omega
    have e : IntKind.i64.wrap ((i : Int) + 1) = ((i + 1 : Nat) : Int) := by rw [IntKind.wrap_i64]; omega
    rw [vineryref04_Set.l1, if_pos (by simp; omega), if_pos (by omega), if_pos (by omega), Option.bind_some, rdx out i hi, rdx l j hj, List.drop_eq_getElem_cons hi, List.takeWhile_cons]
    by_cases hl : ltb out[i] l[j] = true
    · rw [if_pos hl, if_pos (show Op.bytesLess (bstr (b2s (arL 8 out[i]))).toList (bstr (b2s (arL 8 l[j]))).toList = true from hl), e, rset_l1 l out j hj ho m k (i + 1) (by omega) (by omega), List.length_cons]
      congr 1; omega
    · rw [if_neg hl, if_neg (show ¬ Op.bytesLess (bstr (b2s (arL 8 out[i]))).toList (bstr (b2s (arL 8 l[j]))).toList = true from hl)]
      simp
theorem rset_l0 (l : List (List Int)) (hv : allv l) (hl : l.length ≤ 100) (K : Nat) (hK : 1000 ≤ K) : ∀ (m k j : Nat) (out : List (List Int)), j + m = l.length → m < k → out.length ≤ j → allv out → out.Pairwise lt8 → ∃ r, vineryref04_Set.l0 K l k out (j : Int) = some r ∧ r.Pairwise lt8 ∧ r.length ≤ 1000 ∧ ∀ y, y ∈ r ↔ y ∈ out ∨ y ∈ l.drop j
  | 0, k + 1, j, out, h, _, ho, hov, hs => ⟨out, by rw [vineryref04_Set.l0, if_neg (by simp; omega)], hs, by omega, fun y => by rw [List.drop_eq_nil_of_le (by omega)]; simp⟩
  | m + 1, k + 1, j, out, h, hk, ho, hov, hs => by
    have hj : j < l.length := by omega
    have hx := hv l[j] (List.getElem_mem hj)
    have e : IntKind.i64.wrap ((j : Int) + 1) = ((j + 1 : Nat) : Int) := by rw [IntKind.wrap_i64]; omega
    have h1 := rset_l1 l out j hj (by omega) out.length K 0 (by omega) (by omega)
    rw [List.drop_zero, Nat.zero_add, show ((0 : Nat) : Int) = 0 from rfl] at h1
    have ht := List.takeWhile_append_dropWhile (p := (ltb · l[j])) (l := out)
    have hlen := congrArg List.length ht
    rw [List.length_append] at hlen
    generalize hp : (out.takeWhile (ltb · l[j])).length = p at h1 hlen
    have htk : out.take p = out.takeWhile (ltb · l[j]) := by
      conv => lhs; rw [← ht, ← hp]
      rw [List.take_left]
    have hdr : out.drop p = out.dropWhile (ltb · l[j]) := by
      conv => lhs; rw [← ht, ← hp]
      rw [List.drop_left]
    have hnext : ∀ z, vineryref04_Set.l0 K l k (insR out l[j]) ((j + 1 : Nat) : Int) = z → z = vineryref04_Set.l0 K l k (insR out l[j]) ((j + 1 : Nat) : Int) := fun z h => h.symm
    have hv2 : allv (insR out l[j]) := fun y hy => ((ins_mem out l[j] y).1 hy).elim (hov y) (fun e => e ▸ hx)
    have hs2 := ins_sorted out hov l[j] hx hs
    have hl2 : (insR out l[j]).length ≤ j + 1 := by
      unfold insR
      split
      · omega
      · simp only [List.length_append, List.length_cons]; omega
    obtain ⟨r, r1, r2, r3, r4⟩ := rset_l0 l hv hl K hK m k (j + 1) (insR out l[j]) (by omega) (by omega) hl2 hv2 hs2
    refine ⟨r, ?_, r2, r3, fun y => ?_⟩
    · rw [vineryref04_Set.l0, if_pos (by simp; omega), h1, Option.bind_some]
      have hc : (if (decide ((p : Int) < (out.length : Int))) = true then (if 0 ≤ (p : Int) ∧ (p : Int) < (out.length : Int) then (if 0 ≤ (j : Int) ∧ (j : Int) < (l.length : Int) then some ((eqA 8 (rd out (p : Int)) (rd l (j : Int))) : Bool) else none) else none) else some (false : Bool)) = some (decide ((out.dropWhile (ltb · l[j])).head? = some l[j])) := by
        by_cases hpl : p < out.length
        · have hh : (out.dropWhile (ltb · l[j])).head? = some out[p] := by rw [← hdr, List.head?_drop, List.getElem?_eq_getElem hpl]
          rw [if_pos (by simp; omega), if_pos (by omega), if_pos (by omega), rdx out p hpl, rdx l j hj, hh]
          congr 1
          rw [Bool.eq_iff_iff, eqA_vE (hov _ (List.getElem_mem hpl)) hx, decide_eq_true_eq, Option.some.injEq]
        · have hh : (out.dropWhile (ltb · l[j])).head? = none := by rw [← hdr, List.head?_drop, List.getElem?_eq_none (by omega)]
          rw [if_neg (by simp; omega), hh]; simp
      rw [hc, Option.bind_some, e]
      by_cases hd : (out.dropWhile (ltb · l[j])).head? = some l[j]
      · rw [if_pos (by simpa using hd)]
        have : insR out l[j] = out := by unfold insR; rw [if_pos hd]
        rw [this] at r1; exact r1
      · rw [if_neg (by simpa using hd)]
        have : insR out l[j] = out.takeWhile (ltb · l[j]) ++ l[j] :: out.dropWhile (ltb · l[j]) := by unfold insR; rw [if_neg hd]
        rw [this] at r1
        rw [if_pos (by omega), Int.toNat_natCast, Int.toNat_natCast, List.take_length, show Int.toNat (0 : Int) = 0 from rfl, List.drop_zero, List.nil_append, htk, hdr, rdx l j hj, if_pos (by simp; omega), if_pos (by omega), if_pos (by simp; omega), if_pos (by omega), if_pos (by simp; omega), List.append_assoc]
        exact r1
    · rw [r4, ins_mem, List.drop_eq_getElem_cons hj, List.mem_cons]
      constructor
      · rintro ((h | h) | h)
        · exact .inl h
        · exact .inr (.inl h)
        · exact .inr (.inr h)
      · rintro (h | h | h)
        · exact .inl (.inl h)
        · exact .inl (.inr h)
        · exact .inr h
theorem rset_ok (k : Nat) (l : List (List Int)) (hv : allv l) (hl : l.length ≤ 100) (hk : 1000 ≤ k) : vineryref04_Set.f k l = some (setE l) := by
  obtain ⟨r, h1, h2, _, h4⟩ := rset_l0 l hv hl k hk l.length k 0 [] (by omega) (by omega) (by simp) (fun _ h => nomatch h) List.Pairwise.nil
  rw [show ((0 : Nat) : Int) = 0 from rfl] at h1
  unfold vineryref04_Set.f
  rw [h1, Option.bind_some]
  have : r = setE l := sets_unique h2 (setE_spec l hv).1 fun y => by rw [h4, (setE_spec l hv).2]; simp
  rw [this]
/-! the document's Meet -/
theorem rmeet_l1 (a b : List (List Int)) (hb : b.length ≤ 1000) (j : Nat) (hj : j < a.length) (hB : isB a[j]) : ∀ (m k i : Nat), i + m = b.length → m < k → vineryref04_Meet.l1 a b (j : Int) k (i : Int) = some (if (b.drop i).any (fun x => eqA 8 a[j] x && decide (kindR a[j] = 1)) = true then .inl true else .inr ())
  | 0, k + 1, i, h, _ => by rw [vineryref04_Meet.l1, if_neg (by simp; omega), List.drop_eq_nil_of_le (by omega)]; rfl
  | m + 1, k + 1, i, h, hk => by
    have hi : i < b.length := by omega
    have e : IntKind.i64.wrap ((i : Int) + 1) = ((i + 1 : Nat) : Int) := by rw [IntKind.wrap_i64]; omega
    rw [vineryref04_Meet.l1, if_pos (by simp; omega), if_pos (by omega), if_pos (by omega), rdx a j hj, rdx b i hi, e, rmeet_l1 a b hb j hj hB m k (i + 1) (by omega) (by omega), List.drop_eq_getElem_cons hi, List.any_cons]
    by_cases h1 : eqA 8 a[j] b[i] = true
    · rw [if_pos h1, if_pos (by omega), rkind_ok _ hB, Option.bind_some, Option.bind_some, h1]
      by_cases h2 : kindR a[j] = 1
      · simp [h2]
      · simp [h2]
    · rw [if_neg h1, Option.bind_some]
      have : eqA 8 a[j] b[i] = false := by simpa using h1
      simp [this]
theorem rmeet_l0 (a b : List (List Int)) (ha : allv a) (hal : a.length ≤ 1000) (hb : b.length ≤ 1000) (K : Nat) (hK : 1001 ≤ K) : ∀ (m k j : Nat), j + m = a.length → m < k → vineryref04_Meet.l0 K a b k (j : Int) = some (if (a.drop j).any (hasR b) = true then .inl true else .inr ())
  | 0, k + 1, j, h, _ => by rw [vineryref04_Meet.l0, if_neg (by simp; omega), List.drop_eq_nil_of_le (by omega)]; rfl
  | m + 1, k + 1, j, h, hk => by
    have hj : j < a.length := by omega
    have e : IntKind.i64.wrap ((j : Int) + 1) = ((j + 1 : Nat) : Int) := by rw [IntKind.wrap_i64]; omega
    have h1 := rmeet_l1 a b hb j hj (ha _ (List.getElem_mem hj)).2 b.length K 0 (by omega) (by omega)
    rw [List.drop_zero, show ((0 : Nat) : Int) = 0 from rfl] at h1
    have hh : b.any (fun x => eqA 8 a[j] x && decide (kindR a[j] = 1)) = hasR b a[j] := by
      unfold hasR
      by_cases h2 : kindR a[j] = 1
      · simp [h2]
      · simp [h2]
    rw [vineryref04_Meet.l0, if_pos (by simp; omega), h1, Option.bind_some, hh, e, List.drop_eq_getElem_cons hj, List.any_cons]
    by_cases h3 : hasR b a[j] = true
    · rw [if_pos h3, h3]; rfl
    · rw [if_neg h3]
      have : hasR b a[j] = false := by simpa using h3
      simp only
      rw [rmeet_l0 a b ha hal hb K hK m k (j + 1) (by omega) (by omega), this]; rfl
theorem rmeet_ok (k : Nat) (a b : List (List Int)) (ha : allv a) (hal : a.length ≤ 1000) (hb : b.length ≤ 1000) (hk : 1001 ≤ k) : vineryref04_Meet.f k a b = some (meetR a b) := by
  have := rmeet_l0 a b ha hal hb k hk a.length k 0 (by omega) (by omega)
  rw [List.drop_zero, show ((0 : Nat) : Int) = 0 from rfl] at this
  unfold vineryref04_Meet.f meetR
  rw [this]
  by_cases h : a.any (hasR b) = true
  · rw [if_pos h, h]; rfl
  · rw [if_neg h]
    have : a.any (hasR b) = false := by simpa using h
    rw [this]; rfl
theorem rows_l0 : ∀ (m k i : Nat) (x : List (List Int)), x.length ≤ 1000 → x.length ≤ i + m → m < k → i ≤ 2000 → vinerylaw04_CommunityRows.l0 k x (i : Int) = some ()
  | 0, k + 1, i, x, _, h, _, _ => by rw [vinerylaw04_CommunityRows.l0, if_neg (by simp; omega)]
  | m + 1, k + 1, i, x, hx, h, hk, hi => by
    rw [vinerylaw04_CommunityRows.l0]
    by_cases hlt : i < x.length
    · have e : IntKind.i64.wrap ((i : Int) + 1) = ((i + 1 : Nat) : Int) := by rw [IntKind.wrap_i64]; omega
      rw [if_pos (by simp; omega), if_pos (by omega), e, rows_l0 m k (i + 1) _ (by simp; omega) (by simp; omega) (by omega) (by omega)]
    · rw [if_neg (by simp; omega)]
theorem CommunityRows.law (l : List (List Int)) (hl : okL 8 (okA .u8 8) l) (m : List (List Int)) (hm : okL 8 (okA .u8 8) m) (b : List Int) (hb : okL 1 (okI .u8) b) : ∃ k, vinerylaw04_CommunityRows.f k l m b = some true := by
  have lv : allv l := fun y hy => ⟨(hl.2 y hy).1, okA_isB (hl.2 y hy)⟩
  have mv : allv m := fun y hy => ⟨(hm.2 y hy).1, okA_isB (hm.2 y hy)⟩
  have bB := okL_isB hb
  have bl := okL_len hb
  refine ⟨3000 + b.length, ?_⟩
  generalize hk : 3000 + b.length = k
  have e1 := small04 (k - 60)
  rw [show k - 60 + 60 = k by omega] at e1
  unfold vinerylaw04_CommunityRows.f
  rw [e1, Option.bind_some]
  by_cases hg : l.length ≤ 60 ∧ m.length ≤ 60
  · have hle := setE_len l
    have e2 : Lent.f b = some b := if_pos (by omega)
    have e3 := set_f l lv (by omega)
    have e4 := meet_ok l m k (by omega) (by omega) (by omega) (by omega)
    have e5 := bytes_ok k l lv (by omega) (by omega)
    have e6 := rbytes_ok k l lv (by omega) (by omega)
    obtain ⟨r, err, e7, e8, rl⟩ := reads_same k b bB bl (by omega)
    have e9 := same_self k l (by omega) (by omega)
    have e10 := same_self k m (by omega) (by omega)
    have e11 := rset_ok k l lv (by omega) (by omega)
    have e12 := same_self k (setE l) (by omega) (by omega)
    have e13 := same_self k r (by omega) (by omega)
    have e14 := rows_l0 (setE l).length k 0 (setE l) (by omega) (by omega) (by omega) (by omega)
    rw [show ((0 : Nat) : Int) = 0 from rfl] at e14
    have e15 := rmeet_ok k l m lv (by omega) (by omega) (by omega)
    have e16 : Kept.f b b = some true := by unfold Kept.f; simp
    rw [if_neg (by simp; omega), List.nil_append, List.nil_append, if_pos (by simp; omega), if_pos (by simp; omega), e2, Option.bind_some, e3, Option.bind_some, e4, Option.bind_some, e5, Option.bind_some, e7, Option.bind_some, e8, Option.bind_some, e9, Option.bind_some, if_pos rfl, e10, Option.bind_some, if_pos rfl, e16]
    simp only [Option.bind_some]
    rw [e11, Option.bind_some, e12, Option.bind_some, if_pos rfl, e6, Option.bind_some, if_pos (by simp), e13]
    simp only [Option.bind_some]
    rw [e14, Option.bind_some]
    simp [e15]
  · rw [if_pos (by simp; omega)]
end Go.E
