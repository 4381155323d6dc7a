/- The plain law: what the walk computes is true, whatever the input. -/
import Derived.Test.YtcimnfdaakedcaaGenLabelFills
import Derived.Test.YtcimnfdaakedcaaEngR
set_option linter.unusedVariables false
set_option linter.unusedSimpArgs false
namespace Go.E
theorem bstr_toList (l : List UInt8) : (bstr l).toList = l := by rw [ByteArray.toList_eq]; simp [bstr]
theorem w64 (n : Int) (h : -9223372036854775808 ≤ n ∧ n ≤ 9223372036854775807) : IntKind.i64.wrap n = n := by rw [IntKind.wrap_i64]; omega
def isB (l : List Int) : Prop := ∀ y ∈ l, 0 ≤ y ∧ y ≤ 255
theorem okL_len {α : Type} {c : Nat} {P : α → Prop} {l : List α} (h : okL c P l) : l.length ≤ 140737488351232 ∨ c = 0 := by
  have := h.1
  unfold reachBytes at this
  rcases Nat.eq_zero_or_pos c with h0 | h0
  · exact .inr h0
  · left
    have : l.length * 1 ≤ l.length * c := Nat.mul_le_mul_left _ h0
    omega
theorem okL_isB {l : List Int} (h : okL 1 (okI .u8) l) : isB l := fun y hy => by
  have := h.2 y hy
  have e1 : IntKind.u8.min = 0 := rfl
  have e2 : IntKind.u8.max = 255 := rfl
  unfold okI at this
  omega
theorem rd_at (l : List Int) (i : Nat) (hi : i < l.length) : rd l (i : Int) = l[i] := by simp [rd, List.getD, hi]
theorem ofI (n : Nat) (h : n < 9223372036854775808) : (BitVec.ofInt IntKind.i64.bits (n : Int)).toNat = n := by
  rw [BitVec.toNat_ofInt]
  show (_ % ((2 ^ 64 : Nat) : Int)).toNat = _
  omega
theorem sh4 (a : Int) (h0 : 0 ≤ a) (h1 : a ≤ 1048575) : IntKind.i64.wrap (a * 2 ^ (min (4 : Int).toNat IntKind.i64.bits)) = 16 * a := by
  have : (2 : Int) ^ (min (4 : Int).toNat IntKind.i64.bits) = 16 := rfl
  rw [this, w64 _ (by omega)]; omega
theorem or1 (a : Int) (h0 : 0 ≤ a) (h1 : a ≤ 1048575) : IntKind.i64.wrap (BitVec.ofInt IntKind.i64.bits (16 * a) ||| BitVec.ofInt IntKind.i64.bits (1 : Int)).toNat = 16 * a + 1 := by
  obtain ⟨m, rfl⟩ := Int.eq_ofNat_of_zero_le h0
  have e1 : (BitVec.ofInt IntKind.i64.bits (16 * (m : Int))).toNat = 2 ^ 4 * m := by
    rw [show (16 * (m : Int)) = ((2 ^ 4 * m : Nat) : Int) by omega]
    exact ofI _ (by omega)
  have e2 : (BitVec.ofInt IntKind.i64.bits (1 : Int)).toNat = 1 := rfl
  rw [BitVec.toNat_or, e1, e2, ← Nat.two_pow_add_eq_or_of_lt (show 1 < 2 ^ 4 by decide), w64 _ (by omega)]
  omega
theorem and15 (n : Int) (h0 : 0 ≤ n) (h : n < 9223372036854775808) : IntKind.i64.wrap (BitVec.ofInt IntKind.i64.bits n &&& BitVec.ofInt IntKind.i64.bits (15 : Int)).toNat = n % 16 := by
  obtain ⟨m, rfl⟩ := Int.eq_ofNat_of_zero_le h0
  have e2 : (BitVec.ofInt IntKind.i64.bits (15 : Int)).toNat = 2 ^ 4 - 1 := rfl
  rw [BitVec.toNat_and, ofI m (by omega), e2, Nat.and_two_pow_sub_one_eq_mod, w64 _ (by omega)]
  omega
theorem and1 (n : Int) (h0 : 0 ≤ n) (h : n < 9223372036854775808) : IntKind.i64.wrap (BitVec.ofInt IntKind.i64.bits n &&& BitVec.ofInt IntKind.i64.bits (1 : Int)).toNat = n % 2 := by
  obtain ⟨m, rfl⟩ := Int.eq_ofNat_of_zero_le h0
  have e2 : (BitVec.ofInt IntKind.i64.bits (1 : Int)).toNat = 2 ^ 1 - 1 := rfl
  rw [BitVec.toNat_and, ofI m (by omega), e2, Nat.and_two_pow_sub_one_eq_mod, w64 _ (by omega)]
  omega
theorem small05 (k : Nat) : vinerylaw05_small.f (k + 20) = some true := by
  unfold vinerylaw05_small.f
  simp only [bstr_toList]
  rfl
/-! maps as lists of pairs -/
section
variable {α β : Type} [BEq α] [LawfulBEq α]
def nodK : List (α × β) → Prop
  | [] => True
  | p :: l => mget l p.1 = none ∧ nodK l
theorem mget_mset (k : α) (v : β) (k' : α) : ∀ l : List (α × β), mget (mset l k v) k' = if k' == k then some v else mget l k'
  | [] => by
    unfold mset mget mget
    by_cases h : k' = k
    · subst h; simp
    · simp [h]
  | p :: l => by
    have ih := mget_mset k v k' l
    unfold mset
    by_cases h : k = p.1
    · rw [if_pos (by simpa using h)]
      unfold mget
      by_cases h' : k' = k
      · subst h'; simp
      · have h2 : ¬ k' = p.1 := fun e => h' (e.trans h.symm)
        simp [h', h2]
    · rw [if_neg (by simpa using h)]
      unfold mget
      by_cases h2 : k' = p.1
      · have h' : ¬ k' = k := fun e => h (e.symm.trans h2)
        simp [h2]
        intro e; exact absurd (h2 ▸ e : p.1 = k).symm h
      · simp [h2, ih]
theorem mget_mdel_ne (k k' : α) (h : k' ≠ k) : ∀ l : List (α × β), mget (mdel l k) k' = mget l k'
  | [] => rfl
  | p :: l => by
    have ih := mget_mdel_ne k k' h l
    unfold mdel
    by_cases h1 : k = p.1
    · rw [if_pos (by simpa using h1)]
      conv => rhs; unfold mget
      rw [if_neg (by simp [← h1, h])]
    · rw [if_neg (by simpa using h1)]
      unfold mget
      by_cases h2 : k' = p.1
      · simp [h2]
      · simp [h2, ih]
theorem mget_mdel_self (k : α) : ∀ l : List (α × β), nodK l → mget (mdel l k) k = none
  | [], _ => rfl
  | p :: l, h => by
    unfold mdel
    by_cases h1 : k = p.1
    · rw [if_pos (by simpa using h1), h1]; exact h.1
    · rw [if_neg (by simpa using h1)]
      unfold mget
      rw [if_neg (by simpa using h1)]
      exact mget_mdel_self k l h.2
theorem nodK_mset (k : α) (v : β) : ∀ l : List (α × β), nodK l → nodK (mset l k v)
  | [], _ => ⟨rfl, trivial⟩
  | p :: l, h => by
    unfold mset
    by_cases h1 : k = p.1
    · rw [if_pos (by simpa using h1)]; exact ⟨by rw [h1]; exact h.1, h.2⟩
    · rw [if_neg (by simpa using h1)]
      refine ⟨?_, nodK_mset k v l h.2⟩
      rw [mget_mset, if_neg (fun e => h1 (eq_of_beq e).symm)]; exact h.1
theorem nodK_mdel (k : α) : ∀ l : List (α × β), nodK l → nodK (mdel l k)
  | [], _ => trivial
  | p :: l, h => by
    unfold mdel
    by_cases h1 : k = p.1
    · rw [if_pos (by simpa using h1)]; exact h.2
    · rw [if_neg (by simpa using h1)]
      refine ⟨?_, nodK_mdel k l h.2⟩
      rw [mget_mdel_ne _ _ (fun e => h1 e.symm)]; exact h.1
theorem len_mset_new (k : α) (v : β) : ∀ l : List (α × β), mget l k = none → (mset l k v).length = l.length + 1
  | [], _ => rfl
  | p :: l, h => by
    unfold mget at h
    by_cases h1 : k = p.1
    · rw [if_pos (by simpa using h1)] at h; cases h
    · rw [if_neg (by simpa using h1)] at h
      unfold mset
      rw [if_neg (by simpa using h1)]
      simp [len_mset_new k v l h]
theorem len_mdel (k : α) : ∀ l : List (α × β), (mget l k).isSome = true → (mdel l k).length + 1 = l.length
  | [], h => by cases h
  | p :: l, h => by
    unfold mget at h
    unfold mdel
    by_cases h1 : k = p.1
    · rw [if_pos (by simpa using h1)]; rfl
    · rw [if_neg (by simpa using h1)] at h ⊢
      simp [len_mdel k l h]
/-- so many keys that stand in a row ask for so many places -/
theorem keys_le (f : Int) : ∀ (m : Nat) (l : List (Int × β)), nodK l → (∀ j : Nat, j < m → (mget l (f + j)).isSome = true) → m ≤ l.length
  | 0, _, _, _ => Nat.zero_le _
  | m + 1, l, hn, h => by
    have h1 := len_mdel (f + (m : Int)) l (h m (Nat.lt_succ_self m))
    have h2 := keys_le f m (mdel l (f + (m : Int))) (nodK_mdel _ l hn) (fun j hj => by
      rw [mget_mdel_ne _ _ (by omega)]; exact h j (by omega))
    omega
end
theorem mget_mdel {α β : Type} [BEq α] [LawfulBEq α] (k k' : α) (l : List (α × β)) (h : nodK l) : mget (mdel l k) k' = if k' == k then none else mget l k' := by
  by_cases e : k' = k
  · subst e; simp [mget_mdel_self _ l h]
  · rw [mget_mdel_ne k k' e, if_neg (by simpa using e)]
structure Inv (x : PoolS) : Prop where
  kl : nodK x.labels
  ko : nodK x.owners
  iff : ∀ s n, mget x.labels s = some n ↔ mget x.owners n = some s
  len : x.labels.length = x.owners.length
  bnd : ∀ n, (mget x.owners n).isSome = true → x.first ≤ n ∧ n < x.first + x.count
  f16 : 16 ≤ x.first
  c1 : 1 ≤ x.count
  top : x.first + x.count ≤ 1048576
  le : (x.labels.length : Int) ≤ x.count
theorem Inv.empty (a c : Int) (h1 : 16 ≤ a) (h2 : 1 ≤ c) (h3 : a + c ≤ 1048576) : Inv ⟨a, c, [], []⟩ :=
  ⟨trivial, trivial, fun s n => ⟨fun h => (nomatch h), fun h => (nomatch h)⟩, rfl, fun n h => (nomatch h), h1, h2, h3, by simp; omega⟩
theorem search (ow : List (Int × List UInt8)) (hn : nodK ow) (f : Int) (h0 : 0 ≤ f) (hf : f + ow.length ≤ 4611686018427387904) : ∀ (K m : Nat), (∀ j : Nat, j < m → (mget ow (f + j)).isSome = true) → ow.length < m + K →
    ∃ m' : Nat, m' ≤ ow.length ∧ (∀ j : Nat, j < m' → (mget ow (f + j)).isSome = true) ∧ mget ow (f + m') = none ∧ Pool_Take.l0 ow K (f + m) = some (f + m')
  | 0, m, h, hl => by have := keys_le f m ow hn h; omega
  | K + 1, m, h, hl => by
    rw [Pool_Take.l0]
    by_cases hs : (mget ow (f + m)).isSome = true
    · have h' : ∀ j : Nat, j < m + 1 → (mget ow (f + j)).isSome = true := fun j hj => by
        rcases Nat.lt_succ_iff_lt_or_eq.1 hj with h1 | rfl
        · exact h j h1
        · exact hs
      have hb := keys_le f (m + 1) ow hn h'
      have e : IntKind.i64.wrap (f + (m : Int) + 1) = f + ((m + 1 : Nat) : Int) := by rw [w64 _ (by omega)]; omega
      rw [if_pos hs, e]
      exact search ow hn f h0 hf K (m + 1) h' (by omega)
    · exact ⟨m, keys_le f m ow hn h, h, by simpa using hs, by rw [if_neg hs]⟩
theorem take_f (x : PoolS) (I : Inv x) (o : List UInt8) (K : Nat) (hK : x.labels.length < K) :
    (∃ n, mget x.labels o = some n ∧ Pool_Take.f K x o = some (n, 0, x)) ∨
    (mget x.labels o = none ∧ (x.labels.length : Int) = x.count ∧ Pool_Take.f K x o = some (0, 6, x)) ∨
    (mget x.labels o = none ∧ (x.labels.length : Int) < x.count ∧ ∃ (m : Nat) (y : PoolS), Pool_Take.f K x o = some (x.first + m, 0, y) ∧ Inv y ∧ y.first = x.first ∧ y.count = x.count ∧ mget x.owners (x.first + m) = none ∧ m ≤ x.labels.length ∧
      (∀ j : Nat, j < m → (mget x.owners (x.first + j)).isSome = true) ∧ y.labels = mset x.labels o (x.first + m) ∧ y.owners = mset x.owners (x.first + m) o ∧ y.labels.length = x.labels.length + 1) := by
  unfold Pool_Take.f
  cases h : mget x.labels o with
  | some n => exact .inl ⟨n, rfl, by simp⟩
  | none =>
    right
    by_cases hc : (x.labels.length : Int) = x.count
    · left
      exact ⟨rfl, hc, by simp [hc]⟩
    · right
      have hle := I.le
      have hlen := I.len
      have h16 := I.f16
      have htop := I.top
      refine ⟨rfl, by omega, ?_⟩
      obtain ⟨m, h1, h2, h3, h4⟩ := search x.owners I.ko x.first (by omega) (by omega) K 0 (fun j hj => absurd hj (Nat.not_lt_zero _)) (by omega)
      have e0 : x.first + ((0 : Nat) : Int) = x.first := by simp
      rw [e0] at h4
      refine ⟨m, ⟨x.first, x.count, mset x.labels o (x.first + m), mset x.owners (x.first + m) o⟩, ?_, ?_, rfl, rfl, h3, by omega, h2, rfl, rfl, len_mset_new _ _ _ h⟩
      · have : ((x.labels.length : Int) == x.count) = false := by simpa using hc
        simp [this, h4]
      · refine ⟨nodK_mset _ _ _ I.kl, nodK_mset _ _ _ I.ko, ?_, ?_, ?_, h16, I.c1, htop, ?_⟩
        · intro s n
          simp only [mget_mset]
          by_cases e1 : s = o
          · subst e1
            by_cases e2 : n = x.first + m
            · subst e2; simp
            · have : mget x.owners n ≠ some s := fun e => by rw [← I.iff, h] at e; cases e
              simp [e2, this]
              exact fun e => e2 e.symm
          · by_cases e2 : n = x.first + m
            · subst e2
              have : mget x.labels s ≠ some (x.first + m) := fun e => by rw [I.iff, h3] at e; cases e
              simp [e1, this]
              exact fun e => e1 e.symm
            · simp [e1, e2, I.iff]
        · show (mset x.labels o _).length = (mset x.owners _ o).length
          rw [len_mset_new _ _ _ h, len_mset_new _ _ _ h3, hlen]
        · intro n hn
          simp only [mget_mset] at hn
          by_cases e2 : n = x.first + m
          · subst e2; exact ⟨by show x.first ≤ _; omega, by show _ < x.first + x.count; omega⟩
          · rw [if_neg (by simpa using e2)] at hn
            exact I.bnd n hn
        · show ((mset x.labels o _).length : Int) ≤ x.count
          rw [len_mset_new _ _ _ h]; omega
theorem free_f (x : PoolS) (I : Inv x) (o : List UInt8) : ∃ y, Pool_Free.f x o = some ((mget x.labels o).isSome, y) ∧ Inv y ∧ y.first = x.first ∧ y.count = x.count ∧ ∀ s, mget y.labels s = if s == o then none else mget x.labels s := by
  unfold Pool_Free.f
  cases h : mget x.labels o with
  | none =>
    refine ⟨x, rfl, I, rfl, rfl, fun s => ?_⟩
    by_cases e : s = o
    · subst e; simp [h]
    · simp [e]
  | some n =>
    have h' := (I.iff o n).1 h
    have hlen := I.len
    have hle := I.le
    have l1 := len_mdel o x.labels (by rw [h]; rfl)
    have l2 := len_mdel n x.owners (by rw [h']; rfl)
    refine ⟨⟨x.first, x.count, mdel x.labels o, mdel x.owners n⟩, rfl, ?_, rfl, rfl, fun s => mget_mdel o s x.labels I.kl⟩
    refine ⟨nodK_mdel _ _ I.kl, nodK_mdel _ _ I.ko, ?_, by show (mdel x.labels o).length = (mdel x.owners n).length; omega, ?_, I.f16, I.c1, I.top, by show ((mdel x.labels o).length : Int) ≤ x.count; omega⟩
    · intro s n'
      simp only [mget_mdel _ _ _ I.kl, mget_mdel _ _ _ I.ko]
      by_cases e1 : s = o
      · subst e1
        by_cases e2 : n' = n
        · subst e2; simp
        · have : mget x.owners n' ≠ some s := fun e => by rw [← I.iff, h] at e; exact e2 (Option.some.inj e).symm
          simp [e2, this]
      · by_cases e2 : n' = n
        · subst e2
          have : mget x.labels s ≠ some n' := fun e => by rw [I.iff, h'] at e; exact e1 (Option.some.inj e).symm
          simp [e1, this]
        · simp [e1, e2, I.iff]
    · intro n' hn
      simp only [mget_mdel _ _ _ I.ko] at hn
      by_cases e2 : n' = n
      · subst e2; simp at hn
      · rw [if_neg (by simpa using e2)] at hn
        exact I.bnd n' hn
def lowC (a : Int) : Int := IntKind.i64.wrap ((1 : Int) + (IntKind.i64.wrap (BitVec.ofInt IntKind.i64.bits a &&& BitVec.ofInt IntKind.i64.bits (15 : Int)).toNat))
theorem lowC_eq (a : Int) : IntKind.i64.wrap ((1 : Int) + (IntKind.i64.wrap (BitVec.ofInt IntKind.i64.bits a &&& BitVec.ofInt IntKind.i64.bits (15 : Int)).toNat)) = lowC a := rfl
theorem lowC_in (a : Int) : 1 ≤ lowC a ∧ lowC a ≤ 16 := by
  have e2 : (BitVec.ofInt IntKind.i64.bits (15 : Int)).toNat = 2 ^ 4 - 1 := rfl
  unfold lowC
  rw [BitVec.toNat_and, e2, Nat.and_two_pow_sub_one_eq_mod]
  generalize (BitVec.ofInt IntKind.i64.bits a).toNat = m
  rw [w64 ((m % 2 ^ 4 : Nat) : Int) (by omega), w64 _ (by omega)]
  omega
def aN (i : Nat) : List UInt8 := List.replicate i 97
theorem aN_succ (i : Nat) : aN i ++ [97] = aN (i + 1) := by unfold aN; rw [List.replicate_succ']
theorem aN_len (i : Nat) : (aN i).length = i := by simp [aN]
/-- the pool behind i takes -/
structure St (a c : Int) (i : Nat) (x : PoolS) : Prop where
  inv : Inv x
  first : x.first = a
  count : x.count = c
  len : x.labels.length = i
  old : ∀ s n, mget x.labels s = some n → s.length ≤ i
  occ : ∀ j : Nat, j < i → (mget x.owners (a + j)).isSome = true
theorem St.step {a c : Int} {i : Nat} {x : PoolS} (h : St a c i x) (K : Nat) (hK : i < K) (hi : (i : Int) < c) : ∃ y, Pool_Take.f K x (aN (i + 1)) = some (a + i, 0, y) ∧ St a c (i + 1) y := by
  have hl := h.len
  have hnew : mget x.labels (aN (i + 1)) = none := by
    cases e : mget x.labels (aN (i + 1)) with
    | none => rfl
    | some n => have := h.old _ _ e; rw [aN_len] at this; omega
  rcases take_f x h.inv (aN (i + 1)) K (by omega) with ⟨n, e, _⟩ | ⟨_, e, _⟩ | ⟨_, _, m, y, e, Iy, f1, c1, e2, e3, e4, e5, e6, e7⟩
  · rw [hnew] at e; cases e
  · rw [h.count] at e; omega
  · have hf := h.first
    rw [hf] at e e2 e5 e6
    have hm : m = i := by
      rcases Nat.lt_or_ge m i with h1 | h1
      · have := h.occ m h1
        rw [e2] at this; cases this
      · omega
    subst hm
    refine ⟨y, e, Iy, by rw [f1, hf], by rw [c1, h.count], by rw [e7, hl], ?_, ?_⟩
    · intro s n hs
      rw [e5, mget_mset] at hs
      by_cases hq : s = aN (m + 1)
      · rw [hq, aN_len]; exact Nat.le_refl _
      · rw [if_neg (by simpa using hq)] at hs
        exact Nat.le_succ_of_le (h.old s n hs)
    · intro j hj
      rw [e6, mget_mset]
      by_cases hq : a + (j : Int) = a + m
      · simp [hq]
      · rw [if_neg (by simpa using hq)]
        exact h.occ j (by omega)
theorem fills_l0 (k : Nat) (a b : Int) (hk : 40 ≤ k) (ha : 16 ≤ a ∧ a + lowC b ≤ 1048576) : ∀ (m kk i : Nat) (x : PoolS), i + m = (lowC b).toNat → m < kk → St a (lowC b) i x →
    ∃ y, vinerylaw05_LabelFills.l0 k a b kk x (aN i) (i : Int) = some (.inr (y, aN (lowC b).toNat)) ∧ St a (lowC b) (lowC b).toNat y
  | 0, kk + 1, i, x, h, _, S => by
    have hc := lowC_in b
    rw [vinerylaw05_LabelFills.l0, lowC_eq]
    have : ¬ decide ((i : Int) < lowC b) = true := by simp; omega
    rw [if_neg this]
    obtain rfl : i = (lowC b).toNat := by omega
    exact ⟨x, rfl, S⟩
  | m + 1, kk + 1, i, x, h, hk', S => by
    have hc := lowC_in b
    rw [vinerylaw05_LabelFills.l0, lowC_eq]
    have : decide ((i : Int) < lowC b) = true := by simp; omega
    rw [if_pos this, aN_succ, if_pos (by rw [aN_len]; omega)]
    obtain ⟨y, hy, Sy⟩ := S.step k (by omega) (by omega)
    rw [hy, Option.bind_some]
    have e1 : IntKind.i64.wrap (a + (i : Int)) = a + i := w64 _ (by omega)
    have e2 : IntKind.i64.wrap ((i : Int) + 1) = ((i + 1 : Nat) : Int) := by rw [w64 _ (by omega)]; omega
    simp only [bne_self_eq_false, Bool.false_eq_true, if_false, e1, e2]
    unfold Pool_Count.f
    rw [Sy.len]
    simp only [Option.bind_some, bne_self_eq_false, Bool.false_eq_true, if_false]
    exact fills_l0 k a b hk ha m kk (i + 1) y (by omega) (by omega) Sy
theorem LabelFills.law (a : Int) (ha : okI .i64 a) (b : Int) (hb : okI .i64 b) : ∃ k, vinerylaw05_LabelFills.f k a b = some true := by
  refine ⟨20 + 20, ?_⟩
  have hc := lowC_in b
  unfold vinerylaw05_LabelFills.f
  rw [small05, Option.bind_some]
  show ((Pool_New.f a (lowC b)).bind fun t6 => om t6.1 (some (if true = true then (if (decide (a < (16 : Int))) = true then true else (decide (a > (IntKind.i64.wrap ((IntKind.i64.wrap ((1048575 : Int) - lowC b)) + (1 : Int)))))) else false)) _) = _
  unfold Pool_New.f
  by_cases h : a < 16 ∨ a > 1048575 ∨ lowC b > 1048576 - a
  · have hq : (if (if (if decide (a < (16 : Int)) = true then true else decide (a > (1048575 : Int))) = true then true else decide (lowC b < (1 : Int))) = true then true else decide (lowC b > IntKind.i64.wrap (IntKind.i64.wrap ((1048575 : Int) - a) + (1 : Int)))) = true := by
      by_cases h1 : a < 16
      · simp [h1]
      · by_cases h2 : a > 1048575
        · simp [h2]
        · rw [w64 (1048575 - a) (by omega), w64 (1048575 - a + 1) (by omega)]
          have : lowC b > 1048575 - a + 1 := by omega
          simp [this]
    rw [if_pos hq, Option.bind_some]
    show some _ = _
    rw [w64 (1048575 - lowC b) (by omega), w64 (1048575 - lowC b + 1) (by omega)]
    by_cases h1 : a < 16
    · simp [h1]
    · have : a > 1048575 - lowC b + 1 := by omega
      simp [this]
  · have hq : ¬ (if (if (if decide (a < (16 : Int)) = true then true else decide (a > (1048575 : Int))) = true then true else decide (lowC b < (1 : Int))) = true then true else decide (lowC b > IntKind.i64.wrap (IntKind.i64.wrap ((1048575 : Int) - a) + (1 : Int)))) = true := by
      rw [w64 (1048575 - a) (by omega), w64 (1048575 - a + 1) (by omega)]
      have h1 : ¬ a < 16 := by omega
      have h2 : ¬ 1048575 < a := by omega
      have h3 : ¬ lowC b < 1 := by omega
      have h4 : ¬ 1048575 - a + 1 < lowC b := by omega
      simp [h1, h2, h3, h4]
    rw [if_neg hq, Option.bind_some]
    simp only [om, bne_self_eq_false, Bool.false_eq_true, if_false]
    have S0 : St a (lowC b) 0 ⟨a, lowC b, [], []⟩ := ⟨Inv.empty _ _ (by omega) (by omega) (by omega), rfl, rfl, rfl, fun s n h => (nomatch h), fun j hj => absurd hj (Nat.not_lt_zero _)⟩
    obtain ⟨y, hy, Sy⟩ := fills_l0 (20 + 20) a b (by omega) (by omega) (lowC b).toNat (20 + 20) 0 _ (by omega) (by omega) S0
    rw [show vinerylaw05_LabelFills.l0 (20 + 20) a b (20 + 20) ⟨a, lowC b, [], []⟩ ([] : List UInt8) (0 : Int) = _ from hy, Option.bind_some]
    simp only [aN_succ]
    rw [if_pos (by rw [aN_len]; omega)]
    have hl := Sy.len
    rcases take_f y Sy.inv (aN ((lowC b).toNat + 1)) (20 + 20) (by omega) with ⟨n, e, _⟩ | ⟨_, _, e⟩ | ⟨_, e, _⟩
    · have := Sy.old _ _ e; rw [aN_len] at this; omega
    · rw [e]; rfl
    · rw [Sy.count] at e; omega
end Go.E
