/- The plain law: what the walk computes is true, whatever the input. -/
import Derived.Test.YtcimnfdaakedcaaGenLabelPlays
import Derived.Test.YtcimnfdaakedcaaEngR
set_option linter.unusedVariables false
set_option linter.unusedSimpArgs false
namespace Go.E
theorem bstr_toList (l : List UInt8) : (bstr l).toList = l := by rw [ByteArray.toList_eq]; simp [bstr]
theorem w64 (n : Int) (h : -9223372036854775808 ≤ n ∧ n ≤ 9223372036854775807) : IntKind.i64.wrap n = n := by rw [IntKind.wrap_i64]; omega
def isB (l : List Int) : Prop := ∀ y ∈ l, 0 ≤ y ∧ y ≤ 255
theorem okL_len {α : Type} {c : Nat} {P : α → Prop} {l : List α} (h : okL c P l) : l.length ≤ 140737488351232 ∨ c = 0 := by
  have := h.1
  unfold reachBytes at this
  rcases Nat.eq_zero_or_pos c with h0 | h0
  · exact .inr h0
  · left
    have : l.length * 1 ≤ l.length * c := Nat.mul_le_mul_left _ h0
    omega
theorem okL_isB {l : List Int} (h : okL 1 (okI .u8) l) : isB l := fun y hy => by
  have := h.2 y hy
  have e1 : IntKind.u8.min = 0 := rfl
  have e2 : IntKind.u8.max = 255 := rfl
  unfold okI at this
  omega
theorem rd_at (l : List Int) (i : Nat) (hi : i < l.length) : rd l (i : Int) = l[i] := by simp [rd, List.getD, hi]
theorem ofI (n : Nat) (h : n < 9223372036854775808) : (BitVec.ofInt IntKind.i64.bits (n : Int)).toNat = n := by
  rw [BitVec.toNat_ofInt]
  show (_ % ((2 ^ 64 : Nat) : Int)).toNat = _
  omega
theorem sh4 (a : Int) (h0 : 0 ≤ a) (h1 : a ≤ 1048575) : IntKind.i64.wrap (a * 2 ^ (min (4 : Int).toNat IntKind.i64.bits)) = 16 * a := by
  have : (2 : Int) ^ (min (4 : Int).toNat IntKind.i64.bits) = 16 := rfl
  rw [this, w64 _ (by omega)]; omega
theorem or1 (a : Int) (h0 : 0 ≤ a) (h1 : a ≤ 1048575) : IntKind.i64.wrap (BitVec.ofInt IntKind.i64.bits (16 * a) ||| BitVec.ofInt IntKind.i64.bits (1 : Int)).toNat = 16 * a + 1 := by
  obtain ⟨m, rfl⟩ := Int.eq_ofNat_of_zero_le h0
  have e1 : (BitVec.ofInt IntKind.i64.bits (16 * (m : Int))).toNat = 2 ^ 4 * m := by
    rw [show (16 * (m : Int)) = ((2 ^ 4 * m : Nat) : Int) by omega]
    exact ofI _ (by omega)
  have e2 : (BitVec.ofInt IntKind.i64.bits (1 : Int)).toNat = 1 := rfl
  rw [BitVec.toNat_or, e1, e2, ← Nat.two_pow_add_eq_or_of_lt (show 1 < 2 ^ 4 by decide), w64 _ (by omega)]
  omega
theorem and15 (n : Int) (h0 : 0 ≤ n) (h : n < 9223372036854775808) : IntKind.i64.wrap (BitVec.ofInt IntKind.i64.bits n &&& BitVec.ofInt IntKind.i64.bits (15 : Int)).toNat = n % 16 := by
  obtain ⟨m, rfl⟩ := Int.eq_ofNat_of_zero_le h0
  have e2 : (BitVec.ofInt IntKind.i64.bits (15 : Int)).toNat = 2 ^ 4 - 1 := rfl
  rw [BitVec.toNat_and, ofI m (by omega), e2, Nat.and_two_pow_sub_one_eq_mod, w64 _ (by omega)]
  omega
theorem and1 (n : Int) (h0 : 0 ≤ n) (h : n < 9223372036854775808) : IntKind.i64.wrap (BitVec.ofInt IntKind.i64.bits n &&& BitVec.ofInt IntKind.i64.bits (1 : Int)).toNat = n % 2 := by
  obtain ⟨m, rfl⟩ := Int.eq_ofNat_of_zero_le h0
  have e2 : (BitVec.ofInt IntKind.i64.bits (1 : Int)).toNat = 2 ^ 1 - 1 := rfl
  rw [BitVec.toNat_and, ofI m (by omega), e2, Nat.and_two_pow_sub_one_eq_mod, w64 _ (by omega)]
  omega
theorem small05 (k : Nat) : vinerylaw05_small.f (k + 20) = some true := by
  unfold vinerylaw05_small.f
  simp only [bstr_toList]
  rfl
/-! maps as lists of pairs -/
section
variable {α β : Type} [BEq α] [LawfulBEq α]
def nodK : List (α × β) → Prop
  | [] => True
  | p :: l => mget l p.1 = none ∧ nodK l
theorem mget_mset (k : α) (v : β) (k' : α) : ∀ l : List (α × β), mget (mset l k v) k' = if k' == k then some v else mget l k'
  | [] => by
    unfold mset mget mget
    by_cases h : k' = k
    · subst h; simp
    · simp [h]
  | p :: l => by
    have ih := mget_mset k v k' l
    unfold mset
    by_cases h : k = p.1
    · rw [if_pos (by simpa using h)]
      unfold mget
      by_cases h' : k' = k
      · subst h'; simp
      · have h2 : ¬ k' = p.1 := fun e => h' (e.trans h.symm)
        simp [h', h2]
    · rw [if_neg (by simpa using h)]
      unfold mget
      by_cases h2 : k' = p.1
      · have h' : ¬ k' = k := fun e => h (e.symm.trans h2)
        simp [h2]
        intro e; exact absurd (h2 ▸ e : p.1 = k).symm h
      · simp [h2, ih]
theorem mget_mdel_ne (k k' : α) (h : k' ≠ k) : ∀ l : List (α × β), mget (mdel l k) k' = mget l k'
  | [] => rfl
  | p :: l => by
    have ih := mget_mdel_ne k k' h l
    unfold mdel
    by_cases h1 : k = p.1
    · rw [if_pos (by simpa using h1)]
      conv => rhs; unfold mget
      rw [if_neg (by simp [← h1, h])]
    · rw [if_neg (by simpa using h1)]
      unfold mget
      by_cases h2 : k' = p.1
      · simp [h2]
      · simp [h2, ih]
theorem mget_mdel_self (k : α) : ∀ l : List (α × β), nodK l → mget (mdel l k) k = none
  | [], _ => rfl
  | p :: l, h => by
    unfold mdel
    by_cases h1 : k = p.1
    · rw [if_pos (by simpa using h1), h1]; exact h.1
    · rw [if_neg (by simpa using h1)]
      unfold mget
      rw [if_neg (by simpa using h1)]
      exact mget_mdel_self k l h.2
theorem nodK_mset (k : α) (v : β) : ∀ l : List (α × β), nodK l → nodK (mset l k v)
  | [], _ => ⟨rfl, trivial⟩
  | p :: l, h => by
    unfold mset
    by_cases h1 : k = p.1
    · rw [if_pos (by simpa using h1)]; exact ⟨by rw [h1]; exact h.1, h.2⟩
    · rw [if_neg (by simpa using h1)]
      refine ⟨?_, nodK_mset k v l h.2⟩
      rw [mget_mset, if_neg (fun e => h1 (eq_of_beq e).symm)]; exact h.1
theorem nodK_mdel (k : α) : ∀ l : List (α × β), nodK l → nodK (mdel l k)
  | [], _ => trivial
  | p :: l, h => by
    unfold mdel
    by_cases h1 : k = p.1
    · rw [if_pos (by simpa using h1)]; exact h.2
    · rw [if_neg (by simpa using h1)]
      refine ⟨?_, nodK_mdel k l h.2⟩
      rw [mget_mdel_ne _ _ (fun e => h1 e.symm)]; exact h.1
theorem len_mset_new (k : α) (v : β) : ∀ l : List (α × β), mget l k = none → (mset l k v).length = l.length + 1
  | [], _ => rfl
  | p :: l, h => by
    unfold mget at h
    by_cases h1 : k = p.1
    · rw [if_pos (by simpa using h1)] at h; cases h
    · rw [if_neg (by simpa using h1)] at h
      unfold mset
      rw [if_neg (by simpa using h1)]
      simp [len_mset_new k v l h]
theorem len_mdel (k : α) : ∀ l : List (α × β), (mget l k).isSome = true → (mdel l k).length + 1 = l.length
  | [], h => by cases h
  | p :: l, h => by
    unfold mget at h
    unfold mdel
    by_cases h1 : k = p.1
    · rw [if_pos (by simpa using h1)]; rfl
    · rw [if_neg (by simpa using h1)] at h ⊢
      simp [len_mdel k l h]
/-- so many keys that stand in a row ask for so many places -/
theorem keys_le (f : Int) : ∀ (m : Nat) (l : List (Int × β)), nodK l → (∀ j : Nat, j < m → (mget l (f + j)).isSome = true) → m ≤ l.length
  | 0, _, _, _ => Nat.zero_le _
  | m + 1, l, hn, h => by
    have h1 := len_mdel (f + (m : Int)) l (h m (Nat.lt_succ_self m))
    have h2 := keys_le f m (mdel l (f + (m : Int))) (nodK_mdel _ l hn) (fun j hj => by
      rw [mget_mdel_ne _ _ (by omega)]; exact h j (by omega))
    omega
end
theorem mget_mdel {α β : Type} [BEq α] [LawfulBEq α] (k k' : α) (l : List (α × β)) (h : nodK l) : mget (mdel l k) k' = if k' == k then none else mget l k' := by
  by_cases e : k' = k
  · subst e; simp [mget_mdel_self _ l h]
  · rw [mget_mdel_ne k k' e, if_neg (by simpa using e)]
structure Inv (x : PoolS) : Prop where
  kl : nodK x.labels
  ko : nodK x.owners
  iff : ∀ s n, mget x.labels s = some n ↔ mget x.owners n = some s
  len : x.labels.length = x.owners.length
  bnd : ∀ n, (mget x.owners n).isSome = true → x.first ≤ n ∧ n < x.first + x.count
  f16 : 16 ≤ x.first
  c1 : 1 ≤ x.count
  top : x.first + x.count ≤ 1048576
  le : (x.labels.length : Int) ≤ x.count
theorem Inv.empty (a c : Int) (h1 : 16 ≤ a) (h2 : 1 ≤ c) (h3 : a + c ≤ 1048576) : Inv ⟨a, c, [], []⟩ :=
  ⟨trivial, trivial, fun s n => ⟨fun h => (nomatch h), fun h => (nomatch h)⟩, rfl, fun n h => (nomatch h), h1, h2, h3, by simp; omega⟩
theorem search (ow : List (Int × List UInt8)) (hn : nodK ow) (f : Int) (h0 : 0 ≤ f) (hf : f + ow.length ≤ 4611686018427387904) : ∀ (K m : Nat), (∀ j : Nat, j < m → (mget ow (f + j)).isSome = true) → ow.length < m + K →
    ∃ m' : Nat, m' ≤ ow.length ∧ (∀ j : Nat, j < m' → (mget ow (f + j)).isSome = true) ∧ mget ow (f + m') = none ∧ Pool_Take.l0 ow K (f + m) = some (f + m')
  | 0, m, h, hl => by have := keys_le f m ow hn h; omega
  | K + 1, m, h, hl => by
    rw [Pool_Take.l0]
    by_cases hs : (mget ow (f + m)).isSome = true
    · have h' : ∀ j : Nat, j < m + 1 → (mget ow (f + j)).isSome = true := fun j hj => by
        rcases Nat.lt_succ_iff_lt_or_eq.1 hj with h1 | rfl
        · exact h j h1
        · exact hs
      have hb := keys_le f (m + 1) ow hn h'
      have e : IntKind.i64.wrap (f + (m : Int) + 1) = f + ((m + 1 : Nat) : Int) := by rw [w64 _ (by omega)]; omega
      rw [if_pos hs, e]
      exact search ow hn f h0 hf K (m + 1) h' (by omega)
    · exact ⟨m, keys_le f m ow hn h, h, by simpa using hs, by rw [if_neg hs]⟩
theorem take_f (x : PoolS) (I : Inv x) (o : List UInt8) (K : Nat) (hK : x.labels.length < K) :
    (∃ n, mget x.labels o = some n ∧ Pool_Take.f K x o = some (n, 0, x)) ∨
    (mget x.labels o = none ∧ (x.labels.length : Int) = x.count ∧ Pool_Take.f K x o = some (0, 6, x)) ∨
    (mget x.labels o = none ∧ (x.labels.length : Int) < x.count ∧ ∃ (m : Nat) (y : PoolS), Pool_Take.f K x o = some (x.first + m, 0, y) ∧ Inv y ∧ y.first = x.first ∧ y.count = x.count ∧ mget x.owners (x.first + m) = none ∧ m ≤ x.labels.length ∧
      (∀ j : Nat, j < m → (mget x.owners (x.first + j)).isSome = true) ∧ y.labels = mset x.labels o (x.first + m) ∧ y.owners = mset x.owners (x.first + m) o ∧ y.labels.length = x.labels.length + 1) := by
  unfold Pool_Take.f
  cases h : mget x.labels o with
  | some n => exact .inl ⟨n, rfl, by simp⟩
  | none =>
    right
    by_cases hc : (x.labels.length : Int) = x.count
    · left
      exact ⟨rfl, hc, by simp [hc]⟩
    · right
      have hle := I.le
      have hlen := I.len
      have h16 := I.f16
      have htop := I.top
      refine ⟨rfl, by omega, ?_⟩
      obtain ⟨m, h1, h2, h3, h4⟩ := search x.owners I.ko x.first (by omega) (by omega) K 0 (fun j hj => absurd hj (Nat.not_lt_zero _)) (by omega)
      have e0 : x.first + ((0 : Nat) : Int) = x.first := by simp
      rw [e0] at h4
      refine ⟨m, ⟨x.first, x.count, mset x.labels o (x.first + m), mset x.owners (x.first + m) o⟩, ?_, ?_, rfl, rfl, h3, by omega, h2, rfl, rfl, len_mset_new _ _ _ h⟩
      · have : ((x.labels.length : Int) == x.count) = false := by simpa using hc
        simp [this, h4]
      · refine ⟨nodK_mset _ _ _ I.kl, nodK_mset _ _ _ I.ko, ?_, ?_, ?_, h16, I.c1, htop, ?_⟩
        · intro s n
          simp only [mget_mset]
          by_cases e1 : s = o
          · subst e1
            by_cases e2 : n = x.first + m
            · subst e2; simp
            · have : mget x.owners n ≠ some s := fun e => by rw [← I.iff, h] at e; cases e
              simp [e2, this]
              exact fun e => e2 e.symm
          · by_cases e2 : n = x.first + m
            · subst e2
              have : mget x.labels s ≠ some (x.first + m) := fun e => by rw [I.iff, h3] at e; cases e
              simp [e1, this]
              exact fun e => e1 e.symm
            · simp [e1, e2, I.iff]
        · show (mset x.labels o _).length = (mset x.owners _ o).length
          rw [len_mset_new _ _ _ h, len_mset_new _ _ _ h3, hlen]
        · intro n hn
          simp only [mget_mset] at hn
          by_cases e2 : n = x.first + m
          · subst e2; exact ⟨by show x.first ≤ _; omega, by show _ < x.first + x.count; omega⟩
          · rw [if_neg (by simpa using e2)] at hn
            exact I.bnd n hn
        · show ((mset x.labels o _).length : Int) ≤ x.count
          rw [len_mset_new _ _ _ h]; omega
theorem free_f (x : PoolS) (I : Inv x) (o : List UInt8) : ∃ y, Pool_Free.f x o = some ((mget x.labels o).isSome, y) ∧ Inv y ∧ y.first = x.first ∧ y.count = x.count ∧ ∀ s, mget y.labels s = if s == o then none else mget x.labels s := by
  unfold Pool_Free.f
  cases h : mget x.labels o with
  | none =>
    refine ⟨x, rfl, I, rfl, rfl, fun s => ?_⟩
    by_cases e : s = o
    · subst e; simp [h]
    · simp [e]
  | some n =>
    have h' := (I.iff o n).1 h
    have hlen := I.len
    have hle := I.le
    have l1 := len_mdel o x.labels (by rw [h]; rfl)
    have l2 := len_mdel n x.owners (by rw [h']; rfl)
    refine ⟨⟨x.first, x.count, mdel x.labels o, mdel x.owners n⟩, rfl, ?_, rfl, rfl, fun s => mget_mdel o s x.labels I.kl⟩
    refine ⟨nodK_mdel _ _ I.kl, nodK_mdel _ _ I.ko, ?_, by show (mdel x.labels o).length = (mdel x.owners n).length; omega, ?_, I.f16, I.c1, I.top, by show ((mdel x.labels o).length : Int) ≤ x.count; omega⟩
    · intro s n'
      simp only [mget_mdel _ _ _ I.kl, mget_mdel _ _ _ I.ko]
      by_cases e1 : s = o
      · subst e1
        by_cases e2 : n' = n
        · subst e2; simp
        · have : mget x.owners n' ≠ some s := fun e => by rw [← I.iff, h] at e; exact e2 (Option.some.inj e).symm
          simp [e2, this]
      · by_cases e2 : n' = n
        · subst e2
          have : mget x.labels s ≠ some n' := fun e => by rw [I.iff, h'] at e; exact e1 (Option.some.inj e).symm
          simp [e1, this]
        · simp [e1, e2, I.iff]
    · intro n' hn
      simp only [mget_mdel _ _ _ I.ko] at hn
      by_cases e2 : n' = n
      · subst e2; simp at hn
      · rw [if_neg (by simpa using e2)] at hn
        exact I.bnd n' hn
theorem free_g (x : PoolS) (I : Inv x) (o : List UInt8) : (mget x.labels o = none ∧ Pool_Free.f x o = some (false, x)) ∨
    (∃ (n : Int) (y : PoolS), mget x.labels o = some n ∧ Pool_Free.f x o = some (true, y) ∧ Inv y ∧ y.first = x.first ∧ y.count = x.count ∧ y.labels.length + 1 = x.labels.length ∧ ∀ n', mget y.owners n' = if n' == n then none else mget x.owners n') := by
  obtain ⟨y, hy, Iy, h1, h2, h3⟩ := free_f x I o
  cases h : mget x.labels o with
  | none =>
    refine .inl ⟨rfl, ?_⟩
    unfold Pool_Free.f
    rw [h]; rfl
  | some n =>
    refine .inr ⟨n, y, rfl, by rw [hy, h]; rfl, Iy, h1, h2, ?_, ?_⟩
    · unfold Pool_Free.f at hy
      rw [h] at hy
      have e : y = ⟨x.first, x.count, mdel x.labels o, mdel x.owners n⟩ := by
        have := Option.some.inj ((if_pos rfl : (if (some n).isSome = true then _ else _) = _).symm.trans hy)
        exact (congrArg Prod.snd this).symm
      rw [e]
      exact len_mdel o x.labels (by rw [h]; rfl)
    · unfold Pool_Free.f at hy
      rw [h] at hy
      have e : y = ⟨x.first, x.count, mdel x.labels o, mdel x.owners n⟩ := by
        have := Option.some.inj ((if_pos rfl : (if (some n).isSome = true then _ else _) = _).symm.trans hy)
        exact (congrArg Prod.snd this).symm
      rw [e]
      exact fun n' => mget_mdel n n' x.owners I.ko
def sv : Option S_vineryref05_slot → Option (List UInt8)
  | none => none
  | some s => if s.is = true then some s.who else none
structure Sim (x : PoolS) (y : S_vineryref05_Pool) : Prop where
  inv : Inv x
  first : y.first = x.first
  count : y.count = x.count
  len : (y.l.length : Int) ≤ x.count
  own : ∀ j : Nat, mget x.owners (x.first + j) = sv y.l[j]?
  cnt : y.l.countP (·.is) = x.labels.length
theorem Sim.len2 {x : PoolS} {y : S_vineryref05_Pool} (S : Sim x y) : y.l.length ≤ 1048576 := by
  have := S.len
  have := S.inv.top
  have := S.inv.f16
  omega
theorem rdS (l : List S_vineryref05_slot) (i : Nat) (hi : i < l.length) : rd l (i : Int) = l[i] := by simp [rd, List.getD, hi]
theorem Sim.at {x : PoolS} {y : S_vineryref05_Pool} (S : Sim x y) {j : Nat} (hj : j < y.l.length) : mget x.owners (x.first + j) = if y.l[j].is = true then some y.l[j].who else none := by
  rw [S.own, List.getElem?_eq_getElem hj]; rfl
def atV (x : PoolS) (o : List UInt8) : Int ⊕ Unit := match mget x.labels o with | some n => .inl (n - x.first) | none => .inr ()
theorem at_l0 {x : PoolS} {y : S_vineryref05_Pool} (S : Sim x y) (o : List UInt8) : ∀ (m kk i : Nat), i + m = y.l.length → m < kk → (∀ j : Nat, j < i → mget x.owners (x.first + j) ≠ some o) → vineryref05_Pool_at.l0 y o kk (i : Int) = some (atV x o)
  | 0, kk + 1, i, h, _, hn => by
    rw [vineryref05_Pool_at.l0, if_neg (by simp; omega)]
    have : mget x.labels o = none := by
      cases e : mget x.labels o with
      | none => rfl
      | some n =>
        have e2 := (S.inv.iff o n).1 e
        have hb := S.inv.bnd n (by rw [e2]; rfl)
        have hn' : n = x.first + ((n - x.first).toNat : Nat) := by omega
        rw [hn'] at e2
        by_cases hlt : (n - x.first).toNat < i
        · exact absurd e2 (hn _ hlt)
        · rw [S.own, List.getElem?_eq_none (by omega)] at e2
          cases e2
    unfold atV
    rw [this]
  | m + 1, kk + 1, i, h, hk, hn => by
    have hi : i < y.l.length := by omega
    have hl := S.len2
    have e : IntKind.i64.wrap ((i : Int) + 1) = ((i + 1 : Nat) : Int) := by rw [w64 _ (by omega)]; omega
    have hat := S.at hi
    rw [vineryref05_Pool_at.l0, if_pos (by simp; omega), if_pos ⟨by omega, by omega⟩, rdS _ _ hi, bstr_toList, bstr_toList, e]
    by_cases h1 : y.l[i].is = true
    · rw [if_pos h1] at hat ⊢
      rw [if_pos ⟨by omega, by omega⟩, Option.bind_some]
      by_cases h2 : y.l[i].who = o
      · rw [if_pos (by simpa using h2)]
        rw [h2] at hat
        have := (S.inv.iff o _).2 hat
        unfold atV
        rw [this]
        have : x.first + (i : Int) - x.first = i := by omega
        simp [this]
      · rw [if_neg (by simpa using h2)]
        refine at_l0 S o m kk (i + 1) (by omega) (by omega) fun j hj => ?_
        rcases Nat.lt_succ_iff_lt_or_eq.1 hj with hj | rfl
        · exact hn j hj
        · rw [hat]; simpa using h2
    · rw [if_neg h1] at hat ⊢
      rw [Option.bind_some]
      simp only [Bool.false_eq_true, if_false]
      refine at_l0 S o m kk (i + 1) (by omega) (by omega) fun j hj => ?_
      rcases Nat.lt_succ_iff_lt_or_eq.1 hj with hj | rfl
      · exact hn j hj
      · rw [hat]; simp
theorem at_f {x : PoolS} {y : S_vineryref05_Pool} (S : Sim x y) (o : List UInt8) (k : Nat) (hk : 1100000 ≤ k) :
    (∃ n, mget x.labels o = some n ∧ vineryref05_Pool_at.f k y o = some (n - x.first)) ∨ (mget x.labels o = none ∧ vineryref05_Pool_at.f k y o = some (-1)) := by
  have hl := S.len2
  have := at_l0 S o y.l.length k 0 (by omega) (by omega) (fun j hj => absurd hj (Nat.not_lt_zero _))
  unfold vineryref05_Pool_at.f
  rw [show vineryref05_Pool_at.l0 y o k 0 = _ from this, Option.bind_some]
  unfold atV
  cases e : mget x.labels o with
  | none => exact .inr ⟨rfl, rfl⟩
  | some n => exact .inl ⟨n, rfl, rfl⟩
theorem of_f {x : PoolS} {y : S_vineryref05_Pool} (S : Sim x y) (o : List UInt8) (k : Nat) (hk : 1100000 ≤ k) : ∃ r, Pool_Of.f x o = some r ∧ Ref_Of.f k y o = some r := by
  have h16 := S.inv.f16
  have htop := S.inv.top
  refine ⟨_, rfl, ?_⟩
  unfold Ref_Of.f vineryref05_Pool_Of.f
  rcases at_f S o k hk with ⟨n, e, h⟩ | ⟨e, h⟩
  · have hb := S.inv.bnd n (by rw [(S.inv.iff o n).1 e]; rfl)
    rw [h, e, Option.bind_some, if_neg (by simp; omega), S.first, w64 _ (by omega)]
    have : x.first + (n - x.first) = n := by omega
    simp [this]
  · rw [h, e, Option.bind_some]; rfl
theorem owner_f {x : PoolS} {y : S_vineryref05_Pool} (S : Sim x y) (n : Int) (hn : okI .i64 n) : ∃ r, Pool_Owner.f x n = some r ∧ Ref_Owner.f y n = some r := by
  have h16 := S.inv.f16
  have htop := S.inv.top
  have hc1 := S.inv.c1
  have hn2 : -9223372036854775808 ≤ n ∧ n ≤ 9223372036854775807 := hn
  refine ⟨_, rfl, ?_⟩
  unfold Ref_Owner.f vineryref05_Pool_Owner.f
  rw [S.first]
  by_cases h1 : n < x.first
  · have : mget x.owners n = none := by
      cases e : mget x.owners n with
      | none => rfl
      | some v => have := S.inv.bnd n (by rw [e]; rfl); omega
    rw [this]
    simp [h1]
  · obtain ⟨j, hj⟩ := Int.eq_ofNat_of_zero_le (show 0 ≤ n - x.first by omega)
    have hnj : n = x.first + j := by omega
    rw [w64 (n - x.first) (by omega), hj, hnj]
    by_cases h2 : j < y.l.length
    · rw [S.at h2]
      have e1 : ¬ x.first + (j : Int) < x.first := by omega
      have e2 : ¬ (y.l.length : Int) ≤ (j : Int) := by omega
      have e3 : 0 ≤ (j : Int) ∧ (j : Int) < (y.l.length : Int) := by omega
      rw [rdS _ _ h2]
      cases hq : y.l[j].is <;> simp [e1, e2, e3.2, hq, h2]
    · rw [S.own, List.getElem?_eq_none (by omega)]
      have e1 : ¬ x.first + (j : Int) < x.first := by omega
      have e2 : (y.l.length : Int) ≤ (j : Int) := by omega
      simp [e1, e2, sv]
theorem count_l0 (y : S_vineryref05_Pool) (hl : y.l.length ≤ 1048576) : ∀ (m kk i : Nat) (c : Nat), i + m = y.l.length → m < kk → c ≤ i → vineryref05_Pool_Count.l0 y kk (c : Int) (i : Int) = some ((c + (y.l.drop i).countP (·.is) : Nat) : Int)
  | 0, kk + 1, i, c, h, _, _ => by
    rw [vineryref05_Pool_Count.l0, if_neg (by simp; omega), List.drop_of_length_le (by omega)]
    rfl
  | m + 1, kk + 1, i, c, h, hk, hc => by
    have hi : i < y.l.length := by omega
    have e : IntKind.i64.wrap ((i : Int) + 1) = ((i + 1 : Nat) : Int) := by rw [w64 _ (by omega)]; omega
    have e2 : IntKind.i64.wrap ((c : Int) + 1) = ((c + 1 : Nat) : Int) := by rw [w64 _ (by omega)]; omega
    rw [vineryref05_Pool_Count.l0, if_pos (by simp; omega), if_pos ⟨by omega, by omega⟩, rdS _ _ hi, e, e2, List.drop_eq_getElem_cons hi, List.countP_cons]
    by_cases h1 : y.l[i].is = true
    · rw [if_pos h1, count_l0 y hl m kk (i + 1) (c + 1) (by omega) (by omega) (by omega), if_pos h1]
      congr 2; omega
    · rw [if_neg h1, count_l0 y hl m kk (i + 1) c (by omega) (by omega) (by omega), if_neg h1]
      rfl
theorem count_f {x : PoolS} {y : S_vineryref05_Pool} (S : Sim x y) (k : Nat) (hk : 1100000 ≤ k) : ∃ r, Pool_Count.f x = some r ∧ Ref_Count.f k y = some r := by
  have hl := S.len2
  refine ⟨_, rfl, ?_⟩
  have := count_l0 y hl y.l.length k 0 0 (by omega) (by omega) (Nat.le_refl _)
  unfold Ref_Count.f vineryref05_Pool_Count.f
  rw [show vineryref05_Pool_Count.l0 y k 0 0 = _ from this, Option.bind_some, List.drop_zero, Nat.zero_add, S.cnt]
theorem clear_sim {x : PoolS} {y : S_vineryref05_Pool} (S : Sim x y) : ∃ x' y', Pool_Clear.f x = some x' ∧ Ref_Clear.f y = some y' ∧ Sim x' y' := by
  refine ⟨_, _, rfl, rfl, Inv.empty _ _ S.inv.f16 S.inv.c1 S.inv.top, S.first, S.count, ?_, fun j => rfl, rfl⟩
  have := S.inv.c1
  show ((0 : Nat) : Int) ≤ x.count
  omega
theorem free_sim {x : PoolS} {y : S_vineryref05_Pool} (S : Sim x y) (o : List UInt8) (k : Nat) (hk : 1100000 ≤ k) : ∃ b x' y', Pool_Free.f x o = some (b, x') ∧ Ref_Free.f k y o = some (b, y') ∧ Sim x' y' := by
  unfold Ref_Free.f
  rcases free_g x S.inv o with ⟨e, h⟩ | ⟨n, x', e, h, I', f', c', l', o'⟩
  · rcases at_f S o k hk with ⟨n, e2, _⟩ | ⟨_, h2⟩
    · rw [e] at e2; cases e2
    · exact ⟨false, x, y, h, by rw [h2]; rfl, S⟩
  · rcases at_f S o k hk with ⟨n2, e2, h2⟩ | ⟨e2, _⟩
    · obtain rfl : n2 = n := by rw [e] at e2; exact (Option.some.inj e2).symm
      have hon := (S.inv.iff o n2).1 e
      have hb := S.inv.bnd n2 (by rw [hon]; rfl)
      obtain ⟨j, hj⟩ := Int.eq_ofNat_of_zero_le (show 0 ≤ n2 - x.first by omega)
      have hnj : n2 = x.first + j := by omega
      have hlt : j < y.l.length := by
        rcases Nat.lt_or_ge j y.l.length with h | h
        · exact h
        · rw [hnj, S.own, List.getElem?_eq_none h] at hon; cases hon
      have his : y.l[j].is = true := by
        rw [hnj, S.at hlt] at hon
        by_cases q : y.l[j].is = true
        · exact q
        · rw [if_neg q] at hon; cases hon
      rw [h2, Option.bind_some, hj, if_neg (by simp), if_pos ⟨by omega, by omega⟩]
      refine ⟨true, x', _, h, rfl, I', by rw [f']; exact S.first, by rw [c']; exact S.count, ?_, ?_, ?_⟩
      · show ((y.l.set j _).length : Int) ≤ x'.count
        rw [List.length_set, c']; exact S.len
      · intro i
        show mget x'.owners (x'.first + i) = sv (y.l.set j _)[i]?
        rw [o', f', hnj]
        by_cases q : i = j
        · subst q
          rw [List.getElem?_set_self hlt]
          simp [sv]
        · rw [List.getElem?_set_ne (by omega), if_neg (by simp; omega)]
          exact S.own i
      · show (y.l.set j _).countP _ = x'.labels.length
        rw [List.countP_set hlt, S.cnt]
        simp [his]
        omega
    · rw [e] at e2; cases e2
theorem rtake_l0 {x : PoolS} {y : S_vineryref05_Pool} (S : Sim x y) (m : Nat) (hm : ∀ j : Nat, j < m → (mget x.owners (x.first + j)).isSome = true) (hn : mget x.owners (x.first + m) = none) : ∀ (d kk i : Nat), i + d = m → d < kk → Ref_Take.l0 y kk (i : Int) = some (m : Int)
  | 0, kk + 1, i, h, _ => by
    obtain rfl : i = m := by omega
    rw [Ref_Take.l0]
    by_cases hi : i < y.l.length
    · rw [if_pos (by simp; omega), if_pos ⟨by omega, by omega⟩, rdS _ _ hi]
      have := S.at hi
      rw [hn] at this
      rw [if_neg (fun e => by rw [if_pos e] at this; cases this)]
    · rw [if_neg (by simp; omega)]
  | d + 1, kk + 1, i, h, hk => by
    have hs := hm i (by omega)
    have hl := S.len2
    have hi : i < y.l.length := by
      rcases Nat.lt_or_ge i y.l.length with h | h
      · exact h
      · rw [S.own, List.getElem?_eq_none h] at hs; cases hs
    have e : IntKind.i64.wrap ((i : Int) + 1) = ((i + 1 : Nat) : Int) := by rw [w64 _ (by omega)]; omega
    rw [Ref_Take.l0, if_pos (by simp; omega), if_pos ⟨by omega, by omega⟩, rdS _ _ hi, e]
    rw [S.at hi] at hs
    by_cases q : y.l[i].is = true
    · rw [if_pos q]
      exact rtake_l0 S m hm hn d kk (i + 1) (by omega) (by omega)
    · rw [if_neg q] at hs; cases hs
theorem rtake_full {x : PoolS} {y : S_vineryref05_Pool} (h : ∀ s ∈ y.l, s.is = true) (hl : y.l.length ≤ 1048576) : ∀ (d kk i : Nat), i + d = y.l.length → d < kk → Ref_Take.l0 y kk (i : Int) = some (y.l.length : Int)
  | 0, kk + 1, i, e, _ => by
    rw [Ref_Take.l0, if_neg (by simp; omega)]
    congr 1; omega
  | d + 1, kk + 1, i, e, hk => by
    have hi : i < y.l.length := by omega
    have e2 : IntKind.i64.wrap ((i : Int) + 1) = ((i + 1 : Nat) : Int) := by rw [w64 _ (by omega)]; omega
    rw [Ref_Take.l0, if_pos (by simp; omega), if_pos ⟨by omega, by omega⟩, rdS _ _ hi, e2, if_pos (h _ (List.getElem_mem hi))]
    exact rtake_full (x := x) h hl d kk (i + 1) (by omega) (by omega)
theorem put_sim {x x' : PoolS} {y : S_vineryref05_Pool} {o : List UInt8} {m : Nat} (S : Sim x y) (I' : Inv x') (f' : x'.first = x.first) (c' : x'.count = x.count) (o' : x'.owners = mset x.owners (x.first + m) o) (l' : x'.labels.length = x.labels.length + 1)
    (hn : mget x.owners (x.first + m) = none) (l : List S_vineryref05_slot) (hlt : m < l.length) (hl : (l.length : Int) ≤ x.count) (hs : ∀ j : Nat, sv l[j]? = sv y.l[j]?) (hc : l.countP (·.is) = y.l.countP (·.is)) :
    ∃ y', Ref_Take.put y l m o = some (x.first + m, 0, y') ∧ Sim x' y' := by
  have h16 := S.inv.f16
  have htop := S.inv.top
  unfold Ref_Take.put
  rw [if_pos ⟨by omega, by omega⟩, S.first, w64 _ (by omega)]
  have hq : l[m].is = false := by
    have := hs m
    rw [← S.own m, hn, List.getElem?_eq_getElem hlt] at this
    cases e : l[m].is with
    | false => rfl
    | true => simp [sv, e] at this
  refine ⟨_, rfl, I', f'.symm, by rw [c']; exact S.count, ?_, ?_, ?_⟩
  · show ((l.set m _).length : Int) ≤ x'.count
    rw [List.length_set, c']; exact hl
  · intro j
    show mget x'.owners (x'.first + j) = sv (l.set m _)[j]?
    rw [o', f', mget_mset]
    by_cases q : j = m
    · subst q
      rw [List.getElem?_set_self hlt]
      simp [sv]
    · rw [List.getElem?_set_ne (by omega), if_neg (by simp; omega), hs]
      exact S.own j
  · show (l.set m _).countP _ = x'.labels.length
    rw [List.countP_set hlt, hc, S.cnt, l']
    simp [hq]
theorem take_sim {x : PoolS} {y : S_vineryref05_Pool} (S : Sim x y) (o : List UInt8) (k : Nat) (hk : 1100000 ≤ k) : ∃ a b x' y', Pool_Take.f k x o = some (a, b, x') ∧ Ref_Take.f k y o = some (a, b, y') ∧ Sim x' y' := by
  have hle := S.inv.le
  have htop := S.inv.top
  have h16 := S.inv.f16
  have hl2 := S.len2
  have hlen := S.len
  unfold Ref_Take.f
  rcases take_f x S.inv o k (by omega) with ⟨n, e, t⟩ | ⟨e, hf, t⟩ | ⟨e, hlt, m, x', t, I', f', c', hn, hm, hocc, _, o', l'⟩
  · rcases at_f S o k hk with ⟨n2, e2, h2⟩ | ⟨e2, _⟩
    · obtain rfl : n2 = n := by rw [e] at e2; exact (Option.some.inj e2).symm
      have hb := S.inv.bnd n2 (by rw [(S.inv.iff o n2).1 e]; rfl)
      refine ⟨n2, 0, x, y, t, ?_, S⟩
      rw [h2, Option.bind_some, if_pos (by simp; omega), S.first, w64 _ (by omega)]
      have : x.first + (n2 - x.first) = n2 := by omega
      rw [this]
    · rw [e] at e2; cases e2
  · rcases at_f S o k hk with ⟨n2, e2, h2⟩ | ⟨_, h2⟩
    · rw [e] at e2; cases e2
    · refine ⟨0, 6, x, y, t, ?_, S⟩
      have hcc := S.cnt
      have hcp : x.labels.length ≤ y.l.length := by rw [← hcc]; exact List.countP_le_length
      have hll : (y.l.length : Int) = x.count := by omega
      have hall : ∀ s ∈ y.l, s.is = true := List.countP_eq_length.1 (hcc.trans (by omega))
      have := rtake_full (x := x) hall hl2 y.l.length k 0 (by omega) (by omega)
      rw [h2, Option.bind_some, if_neg (by decide), show Ref_Take.l0 y k 0 = _ from this, Option.bind_some, if_pos (by rw [S.count]; simpa using hll)]
  · rcases at_f S o k hk with ⟨n2, e2, h2⟩ | ⟨_, h2⟩
    · rw [e] at e2; cases e2
    · have := rtake_l0 S m hocc hn m k 0 (by omega) (by omega)
      rw [h2, Option.bind_some, if_neg (by decide), show Ref_Take.l0 y k 0 = _ from this, Option.bind_some, S.count, if_neg (by simp; omega)]
      have hml : m ≤ y.l.length := by
        rcases Nat.lt_or_ge y.l.length m with h | h
        · have := hocc y.l.length h
          rw [S.own, List.getElem?_eq_none (Nat.le_refl _)] at this
          cases this
        · exact h
      by_cases hq : m = y.l.length
      · rw [if_pos (by simp; omega), if_pos (by omega)]
        obtain ⟨y', h3, h4⟩ := put_sim S I' f' c' o' l' hn (y.l ++ [⟨false, []⟩]) (by simp; omega) (by simp; omega) (fun j => by
          rcases Nat.lt_trichotomy j y.l.length with h | h | h
          · rw [List.getElem?_append_left h]
          · rw [h, List.getElem?_append_right (Nat.le_refl _), List.getElem?_eq_none (Nat.le_refl y.l.length)]; simp [sv]
          · rw [List.getElem?_eq_none (by simp; omega), List.getElem?_eq_none (by omega)]) (by simp [List.countP_append])
        exact ⟨_, _, x', y', t, h3, h4⟩
      · rw [if_neg (by simp; omega)]
        obtain ⟨y', h3, h4⟩ := put_sim S I' f' c' o' l' hn y.l (by omega) hlen (fun _ => rfl) rfl
        exact ⟨_, _, x', y', t, h3, h4⟩
theorem plays_l3 (k : Nat) (acts : List S_vinerylaw05_Act) (hk : 1100000 ≤ k) (hl : acts.length ≤ 140737488351232) (hok : ∀ z ∈ acts, okS_vinerylaw05_Act z) : ∀ (m kk i : Nat) (x : PoolS) (y : S_vineryref05_Pool), i + m = acts.length → m < kk → Sim x y →
    vinerylaw05_LabelPlays.l3 k acts kk x y (i : Int) = some (.inr ())
  | m, kk + 1, i, x, y, hm, hkk, S => by
    rw [vinerylaw05_LabelPlays.l3]
    by_cases hb : i < acts.length ∧ i < 100
    · have e1 : (if decide ((i : Int) < (acts.length : Int)) = true then decide ((i : Int) < 100) else false) = true := by
        have h1 : (i : Int) < acts.length := by omega
        have h2 : (i : Int) < 100 := by omega
        simp [h1, h2]
      obtain ⟨m, rfl⟩ : ∃ m', m = m' + 1 := ⟨m - 1, by omega⟩
      have e2 : IntKind.i64.wrap ((i : Int) + 1) = ((i + 1 : Nat) : Int) := by rw [w64 _ (by omega)]; omega
      have next : ∀ (x' : PoolS) (y' : S_vineryref05_Pool), Sim x' y' → ((Pool_Count.f x').bind fun t => (Ref_Count.f k y').bind fun t2 => (if (t != t2) = true then some (.inl ((false : Bool))) else vinerylaw05_LabelPlays.l3 k acts kk x' y' (IntKind.i64.wrap ((i : Int) + (1 : Int))))) = some (.inr ()) := by
        intro x' y' S'
        obtain ⟨r, q1, q2⟩ := count_f S' k hk
        rw [q1, Option.bind_some, q2, Option.bind_some, if_neg (by simp), e2]
        exact plays_l3 k acts hk hl hok m kk (i + 1) x' y' (by omega) (by omega) S'
      have hact : okS_vinerylaw05_Act (rd acts (i : Int)) := by
        have : rd acts (i : Int) = acts[i] := by simp [rd, List.getD, hb.1]
        rw [this]; exact hok _ (List.getElem_mem hb.1)
      rw [if_pos e1, if_pos ⟨by omega, by omega⟩]
      generalize rd acts (i : Int) = act at hact ⊢
      by_cases d0 : act.Do = 0
      · rw [if_pos (by simpa using d0)]
        obtain ⟨a, b, x', y', t1, t2, S'⟩ := take_sim S act.S k hk
        rw [t1, Option.bind_some, t2, Option.bind_some]
        refine (if_neg (by simp)).trans ?_
        exact next x' y' S'
      rw [if_neg (by simpa using d0)]
      by_cases d1 : act.Do = 1
      · rw [if_pos (by simpa using d1)]
        obtain ⟨b, x', y', t1, t2, S'⟩ := free_sim S act.S k hk
        rw [t1, Option.bind_some, t2, Option.bind_some]
        refine (if_neg (by simp)).trans ?_
        exact next x' y' S'
      rw [if_neg (by simpa using d1)]
      by_cases d2 : act.Do = 2
      · rw [if_pos (by simpa using d2)]
        obtain ⟨r, t1, t2⟩ := of_f S act.S k hk
        rw [t1, Option.bind_some, t2, Option.bind_some]
        refine (if_neg (by simp)).trans ?_
        exact next x y S
      rw [if_neg (by simpa using d2)]
      by_cases d3 : act.Do = 3
      · rw [if_pos (by simpa using d3)]
        obtain ⟨r, t1, t2⟩ := owner_f S act.N hact.2.2
        rw [t1, Option.bind_some, t2, Option.bind_some]
        refine (if_neg (by simp)).trans ?_
        exact next x y S
      rw [if_neg (by simpa using d3)]
      by_cases d4 : act.Do = 4
      · rw [if_pos (by simpa using d4)]
        obtain ⟨x', y', t1, t2, S'⟩ := clear_sim S
        rw [t1, Option.bind_some, t2, Option.bind_some]
        exact next x' y' S'
      rw [if_neg (by simpa using d4)]
      exact next x y S
    · rw [if_neg (by simp; omega)]
theorem LabelPlays.law (a : Int) (ha : okI .i64 a) (c : Int) (hc : okI .i64 c) (acts : List S_vinerylaw05_Act) (hacts : okL 32 okS_vinerylaw05_Act acts) : ∃ k, vinerylaw05_LabelPlays.f k a c acts = some true := by
  have hl : acts.length ≤ 140737488351232 := by rcases okL_len hacts with h | h <;> omega
  have ha2 : -9223372036854775808 ≤ a ∧ a ≤ 9223372036854775807 := ha
  have hc2 : -9223372036854775808 ≤ c ∧ c ≤ 9223372036854775807 := hc
  refine ⟨(acts.length + 1100000) + 20, ?_⟩
  unfold vinerylaw05_LabelPlays.f
  rw [small05, Option.bind_some]
  unfold Pool_New.f Ref_New.f
  by_cases h : a < 16 ∨ a > 1048575 ∨ c < 1 ∨ c > 1048576 - a
  · have hq : (if (if (if decide (a < (16 : Int)) = true then true else decide (a > (1048575 : Int))) = true then true else decide (c < (1 : Int))) = true then true else decide (c > IntKind.i64.wrap (IntKind.i64.wrap ((1048575 : Int) - a) + (1 : Int)))) = true := by
      by_cases h1 : a < 16
      · simp [h1]
      · by_cases h2 : a > 1048575
        · simp [h2]
        · by_cases h3 : c < 1
          · simp [h3]
          · rw [w64 (1048575 - a) (by omega), w64 (1048575 - a + 1) (by omega)]
            have : c > 1048575 - a + 1 := by omega
            simp [this]
    have hr : Ref_New.bad a c = true := by
      unfold Ref_New.bad
      by_cases h1 : a < 16
      · simp [h1]
      · by_cases h3 : c < 1
        · simp [h3]
        · by_cases h2 : a > 1048575
          · simp [h2]
          · by_cases h4 : c > 1048575
            · simp [h4]
            · rw [w64 (a + c) (by omega), w64 (a + c - 1) (by omega)]
              have : a + c - 1 > 1048575 := by omega
              simp [this]
    rw [if_pos hq, Option.bind_some, if_pos hr]
    rfl
  · have hq : ¬ (if (if (if decide (a < (16 : Int)) = true then true else decide (a > (1048575 : Int))) = true then true else decide (c < (1 : Int))) = true then true else decide (c > IntKind.i64.wrap (IntKind.i64.wrap ((1048575 : Int) - a) + (1 : Int)))) = true := by
      rw [w64 (1048575 - a) (by omega), w64 (1048575 - a + 1) (by omega)]
      have h1 : ¬ a < 16 := by omega
      have h2 : ¬ 1048575 < a := by omega
      have h3 : ¬ c < 1 := by omega
      have h4 : ¬ 1048575 - a + 1 < c := by omega
      simp [h1, h2, h3, h4]
    have hr : ¬ Ref_New.bad a c = true := by
      unfold Ref_New.bad
      rw [w64 (a + c) (by omega), w64 (a + c - 1) (by omega)]
      have h1 : ¬ a < 16 := by omega
      have h2 : ¬ 1048575 < a := by omega
      have h3 : ¬ c < 1 := by omega
      have h4 : ¬ 1048575 < c := by omega
      have h5 : ¬ 1048575 < a + c - 1 := by omega
      simp [h1, h2, h3, h4, h5]
    rw [if_neg hq, Option.bind_some]
    simp only [om]
    rw [if_neg hr, Option.bind_some]
    simp only [om, bne_self_eq_false, Bool.not_true, Bool.false_eq_true, if_false, BEq.rfl]
    have S0 : Sim ⟨a, c, [], []⟩ ⟨a, c, []⟩ := ⟨Inv.empty a c (by omega) (by omega) (by omega), rfl, rfl, by simp; omega, fun _ => rfl, rfl⟩
    rw [show vinerylaw05_LabelPlays.l3 (acts.length + 1100000 + 20) acts (acts.length + 1100000 + 20) ⟨a, c, [], []⟩ ⟨a, c, []⟩ 0 = _ from plays_l3 _ acts (by omega) hl hacts.2 acts.length _ 0 _ _ (by omega) (by omega) S0, Option.bind_some]
end Go.E
