/- The plain law: what the walk computes is true, whatever the input. -/
import Derived.Test.YtcimnfdaakedcaaGenLabelOne
import Derived.Test.YtcimnfdaakedcaaEngR
set_option linter.unusedVariables false
set_option linter.unusedSimpArgs false
namespace Go.E
theorem bstr_toList (l : List UInt8) : (bstr l).toList = l := by rw [ByteArray.toList_eq]; simp [bstr]
theorem w64 (n : Int) (h : -9223372036854775808 ≤ n ∧ n ≤ 9223372036854775807) : IntKind.i64.wrap n = n := by rw [IntKind.wrap_i64]; omega
def isB (l : List Int) : Prop := ∀ y ∈ l, 0 ≤ y ∧ y ≤ 255
theorem okL_len {α : Type} {c : Nat} {P : α → Prop} {l : List α} (h : okL c P l) : l.length ≤ 140737488351232 ∨ c = 0 := by
  have := h.1
  unfold reachBytes at this
  rcases Nat.eq_zero_or_pos c with h0 | h0
  · exact .inr h0
  · left
    have : l.length * 1 ≤ l.length * c := Nat.mul_le_mul_left _ h0
    omega
theorem okL_isB {l : List Int} (h : okL 1 (okI .u8) l) : isB l := fun y hy => by
  have := h.2 y hy
  have e1 : IntKind.u8.min = 0 := rfl
  have e2 : IntKind.u8.max = 255 := rfl
  unfold okI at this
  omega
theorem rd_at (l : List Int) (i : Nat) (hi : i < l.length) : rd l (i : Int) = l[i] := by simp [rd, List.getD, hi]
theorem ofI (n : Nat) (h : n < 9223372036854775808) : (BitVec.ofInt IntKind.i64.bits (n : Int)).toNat = n := by
  rw [BitVec.toNat_ofInt]
  show (_ % ((2 ^ 64 : Nat) : Int)).toNat = _
  omega
theorem sh4 (a : Int) (h0 : 0 ≤ a) (h1 : a ≤ 1048575) : IntKind.i64.wrap (a * 2 ^ (min (4 : Int).toNat IntKind.i64.bits)) = 16 * a := by
  have : (2 : Int) ^ (min (4 : Int).toNat IntKind.i64.bits) = 16 := rfl
  rw [this, w64 _ (by omega)]; omega
theorem or1 (a : Int) (h0 : 0 ≤ a) (h1 : a ≤ 1048575) : IntKind.i64.wrap (BitVec.ofInt IntKind.i64.bits (16 * a) ||| BitVec.ofInt IntKind.i64.bits (1 : Int)).toNat = 16 * a + 1 := by
  obtain ⟨m, rfl⟩ := Int.eq_ofNat_of_zero_le h0
  have e1 : (BitVec.ofInt IntKind.i64.bits (16 * (m : Int))).toNat = 2 ^ 4 * m := by
    rw [show (16 * (m : Int)) = ((2 ^ 4 * m : Nat) : Int) by omega]
    exact ofI _ (by omega)
  have e2 : (BitVec.ofInt IntKind.i64.bits (1 : Int)).toNat = 1 := rfl
  rw [BitVec.toNat_or, e1, e2, ← Nat.two_pow_add_eq_or_of_lt (show 1 < 2 ^ 4 by decide), w64 _ (by omega)]
  omega
theorem and15 (n : Int) (h0 : 0 ≤ n) (h : n < 9223372036854775808) : IntKind.i64.wrap (BitVec.ofInt IntKind.i64.bits n &&& BitVec.ofInt IntKind.i64.bits (15 : Int)).toNat = n % 16 := by
  obtain ⟨m, rfl⟩ := Int.eq_ofNat_of_zero_le h0
  have e2 : (BitVec.ofInt IntKind.i64.bits (15 : Int)).toNat = 2 ^ 4 - 1 := rfl
  rw [BitVec.toNat_and, ofI m (by omega), e2, Nat.and_two_pow_sub_one_eq_mod, w64 _ (by omega)]
  omega
theorem and1 (n : Int) (h0 : 0 ≤ n) (h : n < 9223372036854775808) : IntKind.i64.wrap (BitVec.ofInt IntKind.i64.bits n &&& BitVec.ofInt IntKind.i64.bits (1 : Int)).toNat = n % 2 := by
  obtain ⟨m, rfl⟩ := Int.eq_ofNat_of_zero_le h0
  have e2 : (BitVec.ofInt IntKind.i64.bits (1 : Int)).toNat = 2 ^ 1 - 1 := rfl
  rw [BitVec.toNat_and, ofI m (by omega), e2, Nat.and_two_pow_sub_one_eq_mod, w64 _ (by omega)]
  omega
theorem small05 (k : Nat) : vinerylaw05_small.f (k + 20) = some true := by
  unfold vinerylaw05_small.f
  simp only [bstr_toList]
  rfl
/-! maps as lists of pairs -/
section
variable {α β : Type} [BEq α] [LawfulBEq α]
def nodK : List (α × β) → Prop
  | [] => True
  | p :: l => mget l p.1 = none ∧ nodK l
theorem mget_mset (k : α) (v : β) (k' : α) : ∀ l : List (α × β), mget (mset l k v) k' = if k' == k then some v else mget l k'
  | [] => by
    unfold mset mget mget
    by_cases h : k' = k
    · subst h; simp
    · simp [h]
  | p :: l => by
    have ih := mget_mset k v k' l
    unfold mset
    by_cases h : k = p.1
    · rw [if_pos (by simpa using h)]
      unfold mget
      by_cases h' : k' = k
      · subst h'; simp
      · have h2 : ¬ k' = p.1 := fun e => h' (e.trans h.symm)
        simp [h', h2]
    · rw [if_neg (by simpa using h)]
      unfold mget
      by_cases h2 : k' = p.1
      · have h' : ¬ k' = k := fun e => h (e.symm.trans h2)
        simp [h2]
        intro e; exact absurd (h2 ▸ e : p.1 = k).symm h
      · simp [h2, ih]
theorem mget_mdel_ne (k k' : α) (h : k' ≠ k) : ∀ l : List (α × β), mget (mdel l k) k' = mget l k'
  | [] => rfl
  | p :: l => by
    have ih := mget_mdel_ne k k' h l
    unfold mdel
    by_cases h1 : k = p.1
    · rw [if_pos (by simpa using h1)]
      conv => rhs; unfold mget
      rw [if_neg (by simp [← h1, h])]
    · rw [if_neg (by simpa using h1)]
      unfold mget
      by_cases h2 : k' = p.1
      · simp [h2]
      · simp [h2, ih]
theorem mget_mdel_self (k : α) : ∀ l : List (α × β), nodK l → mget (mdel l k) k = none
  | [], _ => rfl
  | p :: l, h => by
    unfold mdel
    by_cases h1 : k = p.1
    · rw [if_pos (by simpa using h1), h1]; exact h.1
    · rw [if_neg (by simpa using h1)]
      unfold mget
      rw [if_neg (by simpa using h1)]
      exact mget_mdel_self k l h.2
theorem nodK_mset (k : α) (v : β) : ∀ l : List (α × β), nodK l → nodK (mset l k v)
  | [], _ => ⟨rfl, trivial⟩
  | p :: l, h => by
    unfold mset
    by_cases h1 : k = p.1
    · rw [if_pos (by simpa using h1)]; exact ⟨by rw [h1]; exact h.1, h.2⟩
    · rw [if_neg (by simpa using h1)]
      refine ⟨?_, nodK_mset k v l h.2⟩
      rw [mget_mset, if_neg (fun e => h1 (eq_of_beq e).symm)]; exact h.1
theorem nodK_mdel (k : α) : ∀ l : List (α × β), nodK l → nodK (mdel l k)
  | [], _ => trivial
  | p :: l, h => by
    unfold mdel
    by_cases h1 : k = p.1
    · rw [if_pos (by simpa using h1)]; exact h.2
    · rw [if_neg (by simpa using h1)]
      refine ⟨?_, nodK_mdel k l h.2⟩
      rw [mget_mdel_ne _ _ (fun e => h1 e.symm)]; exact h.1
theorem len_mset_new (k : α) (v : β) : ∀ l : List (α × β), mget l k = none → (mset l k v).length = l.length + 1
  | [], _ => rfl
  | p :: l, h => by
    unfold mget at h
    by_cases h1 : k = p.1
    · rw [if_pos (by simpa using h1)] at h; cases h
    · rw [if_neg (by simpa using h1)] at h
      unfold mset
      rw [if_neg (by simpa using h1)]
      simp [len_mset_new k v l h]
theorem len_mdel (k : α) : ∀ l : List (α × β), (mget l k).isSome = true → (mdel l k).length + 1 = l.length
  | [], h => by cases h
  | p :: l, h => by
    unfold mget at h
    unfold mdel
    by_cases h1 : k = p.1
    · rw [if_pos (by simpa using h1)]; rfl
    · rw [if_neg (by simpa using h1)] at h ⊢
      simp [len_mdel k l h]
/-- so many keys that stand in a row ask for so many places -/
theorem keys_le (f : Int) : ∀ (m : Nat) (l : List (Int × β)), nodK l → (∀ j : Nat, j < m → (mget l (f + j)).isSome = true) → m ≤ l.length
  | 0, _, _, _ => Nat.zero_le _
  | m + 1, l, hn, h => by
    have h1 := len_mdel (f + (m : Int)) l (h m (Nat.lt_succ_self m))
    have h2 := keys_le f m (mdel l (f + (m : Int))) (nodK_mdel _ l hn) (fun j hj => by
      rw [mget_mdel_ne _ _ (by omega)]; exact h j (by omega))
    omega
end
theorem mget_mdel {α β : Type} [BEq α] [LawfulBEq α] (k k' : α) (l : List (α × β)) (h : nodK l) : mget (mdel l k) k' = if k' == k then none else mget l k' := by
  by_cases e : k' = k
  · subst e; simp [mget_mdel_self _ l h]
  · rw [mget_mdel_ne k k' e, if_neg (by simpa using e)]
structure Inv (x : PoolS) : Prop where
  kl : nodK x.labels
  ko : nodK x.owners
  iff : ∀ s n, mget x.labels s = some n ↔ mget x.owners n = some s
  len : x.labels.length = x.owners.length
  bnd : ∀ n, (mget x.owners n).isSome = true → x.first ≤ n ∧ n < x.first + x.count
  f16 : 16 ≤ x.first
  c1 : 1 ≤ x.count
  top : x.first + x.count ≤ 1048576
  le : (x.labels.length : Int) ≤ x.count
theorem Inv.empty (a c : Int) (h1 : 16 ≤ a) (h2 : 1 ≤ c) (h3 : a + c ≤ 1048576) : Inv ⟨a, c, [], []⟩ :=
  ⟨trivial, trivial, fun s n => ⟨fun h => (nomatch h), fun h => (nomatch h)⟩, rfl, fun n h => (nomatch h), h1, h2, h3, by simp; omega⟩
theorem search (ow : List (Int × List UInt8)) (hn : nodK ow) (f : Int) (h0 : 0 ≤ f) (hf : f + ow.length ≤ 4611686018427387904) : ∀ (K m : Nat), (∀ j : Nat, j < m → (mget ow (f + j)).isSome = true) → ow.length < m + K →
    ∃ m' : Nat, m' ≤ ow.length ∧ (∀ j : Nat, j < m' → (mget ow (f + j)).isSome = true) ∧ mget ow (f + m') = none ∧ Pool_Take.l0 ow K (f + m) = some (f + m')
  | 0, m, h, hl => by have := keys_le f m ow hn h; omega
  | K + 1, m, h, hl => by
    rw [Pool_Take.l0]
    by_cases hs : (mget ow (f + m)).isSome = true
    · have h' : ∀ j : Nat, j < m + 1 → (mget ow (f + j)).isSome = true := fun j hj => by
        rcases Nat.lt_succ_iff_lt_or_eq.1 hj with h1 | rfl
        · exact h j h1
        · exact hs
      have hb := keys_le f (m + 1) ow hn h'
      have e : IntKind.i64.wrap (f + (m : Int) + 1) = f + ((m + 1 : Nat) : Int) := by rw [w64 _ (by omega)]; omega
      rw [if_pos hs, e]
      exact search ow hn f h0 hf K (m + 1) h' (by omega)
    · exact ⟨m, keys_le f m ow hn h, h, by simpa using hs, by rw [if_neg hs]⟩
theorem take_f (x : PoolS) (I : Inv x) (o : List UInt8) (K : Nat) (hK : x.labels.length < K) :
    (∃ n, mget x.labels o = some n ∧ Pool_Take.f K x o = some (n, 0, x)) ∨
    (mget x.labels o = none ∧ (x.labels.length : Int) = x.count ∧ Pool_Take.f K x o = some (0, 6, x)) ∨
    (mget x.labels o = none ∧ (x.labels.length : Int) < x.count ∧ ∃ (m : Nat) (y : PoolS), Pool_Take.f K x o = some (x.first + m, 0, y) ∧ Inv y ∧ y.first = x.first ∧ y.count = x.count ∧ mget x.owners (x.first + m) = none ∧ m ≤ x.labels.length ∧
      (∀ j : Nat, j < m → (mget x.owners (x.first + j)).isSome = true) ∧ y.labels = mset x.labels o (x.first + m) ∧ y.owners = mset x.owners (x.first + m) o ∧ y.labels.length = x.labels.length + 1) := by
  unfold Pool_Take.f
  cases h : mget x.labels o with
  | some n => exact .inl ⟨n, rfl, by simp⟩
  | none =>
    right
    by_cases hc : (x.labels.length : Int) = x.count
    · left
      exact ⟨rfl, hc, by simp [hc]⟩
    · right
      have hle := I.le
      have hlen := I.len
      have h16 := I.f16
      have htop := I.top
      refine ⟨rfl, by omega, ?_⟩
      obtain ⟨m, h1, h2, h3, h4⟩ := search x.owners I.ko x.first (by omega) (by omega) K 0 (fun j hj => absurd hj (Nat.not_lt_zero _)) (by omega)
      have e0 : x.first + ((0 : Nat) : Int) = x.first := by simp
      rw [e0] at h4
      refine ⟨m, ⟨x.first, x.count, mset x.labels o (x.first + m), mset x.owners (x.first + m) o⟩, ?_, ?_, rfl, rfl, h3, by omega, h2, rfl, rfl, len_mset_new _ _ _ h⟩
      · have : ((x.labels.length : Int) == x.count) = false := by simpa using hc
        simp [this, h4]
      · refine ⟨nodK_mset _ _ _ I.kl, nodK_mset _ _ _ I.ko, ?_, ?_, ?_, h16, I.c1, htop, ?_⟩
        · intro s n
          simp only [mget_mset]
          by_cases e1 : s = o
          · subst e1
            by_cases e2 : n = x.first + m
            · subst e2; simp
            · have : mget x.owners n ≠ some s := fun e => by rw [← I.iff, h] at e; cases e
              simp [e2, this]
              exact fun e => e2 e.symm
          · by_cases e2 : n = x.first + m
            · subst e2
              have : mget x.labels s ≠ some (x.first + m) := fun e => by rw [I.iff, h3] at e; cases e
              simp [e1, this]
              exact fun e => e1 e.symm
            · simp [e1, e2, I.iff]
        · show (mset x.labels o _).length = (mset x.owners _ o).length
          rw [len_mset_new _ _ _ h, len_mset_new _ _ _ h3, hlen]
        · intro n hn
          simp only [mget_mset] at hn
          by_cases e2 : n = x.first + m
          · subst e2; exact ⟨by show x.first ≤ _; omega, by show _ < x.first + x.count; omega⟩
          · rw [if_neg (by simpa using e2)] at hn
            exact I.bnd n hn
        · show ((mset x.labels o _).length : Int) ≤ x.count
          rw [len_mset_new _ _ _ h]; omega
theorem free_f (x : PoolS) (I : Inv x) (o : List UInt8) : ∃ y, Pool_Free.f x o = some ((mget x.labels o).isSome, y) ∧ Inv y ∧ y.first = x.first ∧ y.count = x.count ∧ ∀ s, mget y.labels s = if s == o then none else mget x.labels s := by
  unfold Pool_Free.f
  cases h : mget x.labels o with
  | none =>
    refine ⟨x, rfl, I, rfl, rfl, fun s => ?_⟩
    by_cases e : s = o
    · subst e; simp [h]
    · simp [e]
  | some n =>
    have h' := (I.iff o n).1 h
    have hlen := I.len
    have hle := I.le
    have l1 := len_mdel o x.labels (by rw [h]; rfl)
    have l2 := len_mdel n x.owners (by rw [h']; rfl)
    refine ⟨⟨x.first, x.count, mdel x.labels o, mdel x.owners n⟩, rfl, ?_, rfl, rfl, fun s => mget_mdel o s x.labels I.kl⟩
    refine ⟨nodK_mdel _ _ I.kl, nodK_mdel _ _ I.ko, ?_, by show (mdel x.labels o).length = (mdel x.owners n).length; omega, ?_, I.f16, I.c1, I.top, by show ((mdel x.labels o).length : Int) ≤ x.count; omega⟩
    · intro s n'
      simp only [mget_mdel _ _ _ I.kl, mget_mdel _ _ _ I.ko]
      by_cases e1 : s = o
      · subst e1
        by_cases e2 : n' = n
        · subst e2; simp
        · have : mget x.owners n' ≠ some s := fun e => by rw [← I.iff, h] at e; exact e2 (Option.some.inj e).symm
          simp [e2, this]
      · by_cases e2 : n' = n
        · subst e2
          have : mget x.labels s ≠ some n' := fun e => by rw [I.iff, h'] at e; exact e1 (Option.some.inj e).symm
          simp [e1, this]
        · simp [e1, e2, I.iff]
    · intro n' hn
      simp only [mget_mdel _ _ _ I.ko] at hn
      by_cases e2 : n' = n
      · subst e2; simp at hn
      · rw [if_neg (by simpa using e2)] at hn
        exact I.bnd n' hn
theorem Inv.label {x : PoolS} (I : Inv x) {s : List UInt8} {n : Int} (h : mget x.labels s = some n) : x.first ≤ n ∧ n < x.first + x.count := I.bnd n (by rw [(I.iff s n).1 h]; rfl)
theorem Inv.some0 {x : PoolS} (I : Inv x) (s : List UInt8) : (mget x.labels s).isSome = ((mget x.labels s).getD 0 != 0) := by
  cases h : mget x.labels s with
  | none => rfl
  | some n =>
    have h1 := I.label h
    have h2 := I.f16
    have : n ≠ 0 := by omega
    simp [this]
theorem fin1 (y : PoolS) (I : Inv y) (s : List UInt8) (h : Int) (hh : (mget y.labels s).getD 0 = h) (c : Int) (hc : y.count = c) (R : Option (Bool ⊕ Unit)) :
    ((Pool_Of.f y s).bind fun t => ((if (!(t.2 == (h != (0 : Int)))) = true then some (true : Bool) else (if (t.1 != h) = true then some (true : Bool) else (Pool_Count.f y).bind fun t2 => some (decide (t2 > c) : Bool)))).bind fun s => (if s = true then some (.inl ((false : Bool))) else R)) = R := by
  subst hh
  subst hc
  unfold Pool_Of.f Pool_Count.f
  have := I.le
  have h2 : ¬ y.count < (y.labels.length : Int) := by omega
  rw [Option.bind_some, I.some0]
  simp [h2]
theorem ok0 (y : PoolS) (I : Inv y) (o : List UInt8) (n a c : Int) (hn : mget y.labels o = some n) (ha : y.first = a) (hc : y.count = c) (R : Option (Bool ⊕ Unit)) :
    ((Pool_Owner.f y n).bind fun t50 => (Pool_Of.f y o).bind fun t52 => ((if (!t50.2) = true then some (true : Bool) else (if (!((bstr t50.1).toList == (bstr o).toList)) = true then some (true : Bool) else (if (!t52.2) = true then some (true : Bool) else (if (t52.1 != n) = true then some (true : Bool) else (if (decide (n < a)) = true then some (true : Bool) else some (decide ((IntKind.i64.wrap (n - a)) ≥ c) : Bool))))))).bind fun s55 => (if s55 = true then some (.inl ((false : Bool))) else R)) = R := by
  subst ha
  subst hc
  have h1 := I.label hn
  have h2 := I.f16
  have h3 := I.top
  have h4 := (I.iff o n).1 hn
  unfold Pool_Owner.f Pool_Of.f
  rw [h4, hn, w64 (n - y.first) (by omega)]
  have h5 : ¬ n < y.first := by omega
  have h6 : ¬ y.count ≤ n - y.first := by omega
  simp [h5, h6]
theorem one_l0 (k : Nat) (a c : Int) (acts : List S_vinerylaw05_Act) (s0 : List UInt8) (hk : 1100000 ≤ k) (hl : acts.length ≤ 140737488351232) : ∀ (m kk i : Nat) (x : PoolS) (h : Int), i + m = acts.length → m < kk → Inv x → x.first = a → x.count = c → (mget x.labels s0).getD 0 = h →
    vinerylaw05_LabelOne.l0 k a c acts s0 kk x h (i : Int) = some (.inr ())
  | m, kk + 1, i, x, h, hm, hkk, I, ha, hc, hh => by
    rw [vinerylaw05_LabelOne.l0]
    by_cases hb : i < acts.length ∧ i < 100
    · have e1 : (if decide ((i : Int) < (acts.length : Int)) = true then decide ((i : Int) < 100) else false) = true := by
        have h1 : (i : Int) < acts.length := by omega
        have h2 : (i : Int) < 100 := by omega
        simp [h1, h2]
      obtain ⟨m, rfl⟩ : ∃ m', m = m' + 1 := ⟨m - 1, by omega⟩
      have e2 : IntKind.i64.wrap ((i : Int) + 1) = ((i + 1 : Nat) : Int) := by rw [w64 _ (by omega)]; omega
      have next : ∀ (y : PoolS) (h' : Int), Inv y → y.first = a → y.count = c → (mget y.labels s0).getD 0 = h' → vinerylaw05_LabelOne.l0 k a c acts s0 kk y h' (IntKind.i64.wrap ((i : Int) + 1)) = some (.inr ()) := by
        intro y h' Iy fy cy hy
        rw [e2]
        exact one_l0 k a c acts s0 hk hl m kk (i + 1) y h' (by omega) (by omega) Iy fy cy hy
      rw [if_pos e1, if_pos ⟨by omega, by omega⟩]
      generalize rd acts (i : Int) = act
      have hle := I.le
      have htop := I.top
      have h16 := I.f16
      -- what comes behind a take that gave n
      have take0 : ∀ (y : PoolS) (n : Int), Inv y → y.first = a → y.count = c → mget y.labels act.S = some n → (act.S = s0 → h = 0 ∨ h = n) → (act.S ≠ s0 → (mget y.labels s0).getD 0 = h) →
          ((if (if (if ((bstr act.S).toList == (bstr s0).toList) = true then (h != (0 : Int)) else false) = true then (h != n) else false) = true then some (.inl (false : Bool)) else
            (if ((bstr act.S).toList == (bstr s0).toList) = true then (Pool_Of.f y s0).bind fun t => ((if (!(t.2 == (n != (0 : Int)))) = true then some (true : Bool) else (if (t.1 != n) = true then some (true : Bool) else (Pool_Count.f y).bind fun t2 => some (decide (t2 > c) : Bool)))).bind fun s => (if s = true then some (.inl ((false : Bool))) else vinerylaw05_LabelOne.l0 k a c acts s0 kk y n (IntKind.i64.wrap ((i : Int) + 1)))
            else (Pool_Of.f y s0).bind fun t => ((if (!(t.2 == (h != (0 : Int)))) = true then some (true : Bool) else (if (t.1 != h) = true then some (true : Bool) else (Pool_Count.f y).bind fun t2 => some (decide (t2 > c) : Bool)))).bind fun s => (if s = true then some (.inl ((false : Bool))) else vinerylaw05_LabelOne.l0 k a c acts s0 kk y h (IntKind.i64.wrap ((i : Int) + 1)))) : Option (Bool ⊕ Unit))) = some (.inr ()) := by
        intro y n Iy fy cy hn h1 h2
        rw [bstr_toList, bstr_toList]
        by_cases hs : act.S = s0
        · have hq : ¬ (if (if (act.S == s0) = true then (h != (0 : Int)) else false) = true then (h != n) else false) = true := by
            rcases h1 hs with e | e <;> simp [e]
          rw [if_neg hq, if_pos (by simpa using hs), fin1 y Iy s0 n (by rw [← hs, hn]; rfl) c cy]
          exact next y n Iy fy cy (by rw [← hs, hn]; rfl)
        · have hq : (act.S == s0) = false := by simpa using hs
          rw [hq]
          simp only [Bool.false_eq_true, if_false]
          rw [fin1 y Iy s0 h (h2 hs) c cy]
          exact next y h Iy fy cy (h2 hs)
      by_cases d0 : act.Do = 0
      · rw [if_pos (by simpa using d0)]
        rcases take_f x I act.S k (by omega) with ⟨n, e, t⟩ | ⟨_, _, t⟩ | ⟨e, _, n, y, t, Iy, f1, c1, g2, g3, g4, g5, g6, g7⟩
        · rw [t, Option.bind_some]
          refine (if_pos (show ((0 : Int) == 0) = true from rfl)).trans ?_
          refine (ok0 x I act.S n a c e ha hc _).trans ?_
          exact take0 x n I ha hc e (fun q => .inr (by rw [← hh, ← q, e]; rfl)) (fun _ => hh)
        · rw [t, Option.bind_some]
          refine (if_neg (show ¬ ((6 : Int) == 0) = true by decide)).trans ?_
          refine (fin1 x I s0 h hh c hc _).trans ?_
          exact next x h I ha hc hh
        · rw [t, Option.bind_some]
          have en : mget y.labels act.S = some (x.first + n) := by rw [g5, mget_mset]; simp
          refine (if_pos (show ((0 : Int) == 0) = true from rfl)).trans ?_
          refine (ok0 y Iy act.S (x.first + n) a c en (by rw [f1, ha]) (by rw [c1, hc]) _).trans ?_
          refine take0 y (x.first + n) Iy (by rw [f1, ha]) (by rw [c1, hc]) en (fun q => .inl (by rw [← hh, ← q, e]; rfl)) (fun q => ?_)
          rw [g5, mget_mset, if_neg (by simpa using fun z => q z.symm), hh]
      · rw [if_neg (by simpa using d0)]
        by_cases d1 : act.Do = 1
        · rw [if_pos (by simpa using d1)]
          obtain ⟨y, t, Iy, f1, c1, g⟩ := free_f x I act.S
          rw [t, Option.bind_some]
          by_cases hs : act.S = s0
          · refine (if_pos (by rw [bstr_toList, bstr_toList]; simpa using hs)).trans ?_
            have hz : (mget y.labels s0).getD 0 = 0 := by rw [g, if_pos (by simpa using hs.symm)]; rfl
            refine (if_neg ?_).trans ?_
            · show ¬ (!((mget x.labels act.S).isSome == (h != 0))) = true
              rw [I.some0, hs, hh]; simp
            refine (fin1 y Iy s0 0 hz c (by rw [c1, hc]) _).trans ?_
            exact next y 0 Iy (by rw [f1, ha]) (by rw [c1, hc]) hz
          · refine (if_neg (by rw [bstr_toList, bstr_toList]; simpa using hs)).trans ?_
            have hz : (mget y.labels s0).getD 0 = h := by rw [g, if_neg (by simpa using fun z => hs z.symm), hh]
            refine (fin1 y Iy s0 h hz c (by rw [c1, hc]) _).trans ?_
            exact next y h Iy (by rw [f1, ha]) (by rw [c1, hc]) hz
        · rw [if_neg (by simpa using d1)]
          by_cases d4 : act.Do = 4
          · rw [if_pos (by simpa using d4)]
            unfold Pool_Clear.f
            rw [Option.bind_some]
            have Iy : Inv ⟨x.first, x.count, [], []⟩ := Inv.empty _ _ I.f16 I.c1 I.top
            refine (fin1 _ Iy s0 0 rfl c hc _).trans ?_
            exact next _ 0 Iy ha hc rfl
          · rw [if_neg (by simpa using d4)]
            refine (fin1 x I s0 h hh c hc _).trans ?_
            exact next x h I ha hc hh
    · rw [if_neg (by simp; omega)]
theorem LabelOne.law (a : Int) (ha : okI .i64 a) (c : Int) (hc : okI .i64 c) (acts : List S_vinerylaw05_Act) (hacts : okL 32 okS_vinerylaw05_Act acts) (s : List UInt8) (hs : okS s) : ∃ k, vinerylaw05_LabelOne.f k a c acts s = some true := by
  have hl : acts.length ≤ 140737488351232 := by rcases okL_len hacts with h | h <;> omega
  refine ⟨(acts.length + 1100000) + 20, ?_⟩
  unfold vinerylaw05_LabelOne.f
  rw [small05, Option.bind_some]
  unfold Pool_New.f
  by_cases h : a < 16 ∨ a > 1048575 ∨ c < 1 ∨ c > 1048576 - a
  · have hq : (if (if (if decide (a < (16 : Int)) = true then true else decide (a > (1048575 : Int))) = true then true else decide (c < (1 : Int))) = true then true else decide (c > IntKind.i64.wrap (IntKind.i64.wrap ((1048575 : Int) - a) + (1 : Int)))) = true := by
      by_cases h1 : a < 16
      · simp [h1]
      · by_cases h2 : a > 1048575
        · simp [h2]
        · by_cases h3 : c < 1
          · simp [h3]
          · rw [w64 (1048575 - a) (by omega), w64 (1048575 - a + 1) (by omega)]
            have : c > 1048575 - a + 1 := by omega
            simp [this]
    rw [if_pos hq, Option.bind_some]
    rfl
  · have hq : ¬ (if (if (if decide (a < (16 : Int)) = true then true else decide (a > (1048575 : Int))) = true then true else decide (c < (1 : Int))) = true then true else decide (c > IntKind.i64.wrap (IntKind.i64.wrap ((1048575 : Int) - a) + (1 : Int)))) = true := by
      rw [w64 (1048575 - a) (by omega), w64 (1048575 - a + 1) (by omega)]
      have h1 : ¬ a < 16 := by omega
      have h2 : ¬ 1048575 < a := by omega
      have h3 : ¬ c < 1 := by omega
      have h4 : ¬ 1048575 - a + 1 < c := by omega
      simp [h1, h2, h3, h4]
    rw [if_neg hq, Option.bind_some]
    simp only [om, bne_self_eq_false, Bool.not_true, Bool.false_eq_true, if_false]
    rw [show vinerylaw05_LabelOne.l0 (acts.length + 1100000 + 20) a c acts s (acts.length + 1100000 + 20) ⟨a, c, [], []⟩ 0 0 = _ from one_l0 _ a c acts s (by omega) hl acts.length _ 0 _ 0 (by omega) (by omega) (Inv.empty a c (by omega) (by omega) (by omega)) rfl rfl rfl, Option.bind_some]
end Go.E
