/- The plain law: what the walk computes is true, whatever the input. -/
import Derived.Test.YtkmgglijdfbhpaaDoorGenAddrPrefixes
import Derived.Test.YtkmgglijdfbhpaaDoorEngR
set_option linter.unusedVariables false
set_option linter.unusedSimpArgs false
namespace Go.E
theorem bstr_toList (l : List UInt8) : (bstr l).toList = l := by rw [ByteArray.toList_eq]; simp [bstr]
theorem cmp_range : ∀ (a b : List UInt8), Go.Lib.compareBytes a b = -1 ∨ Go.Lib.compareBytes a b = 0 ∨ Go.Lib.compareBytes a b = 1
  | [], [] => .inr (.inl rfl)
  | [], _ :: _ => .inl rfl
  | _ :: _, [] => .inr (.inr rfl)
  | x :: xs, y :: ys => by
    unfold Go.Lib.compareBytes
    split
    · exact .inl rfl
    · split
      · exact .inr (.inr rfl)
      · exact cmp_range xs ys
theorem u8_tri {x y : UInt8} (h : ¬ x < y) (h' : ¬ y < x) : x = y := UInt8.le_antisymm (UInt8.not_lt.1 h') (UInt8.not_lt.1 h)
theorem cb_cons (x y : UInt8) (xs ys : List UInt8) : Go.Lib.compareBytes (x :: xs) (y :: ys) = if x < y then -1 else if y < x then 1 else Go.Lib.compareBytes xs ys := rfl
theorem cmp_neg : ∀ (a b : List UInt8), Go.Lib.compareBytes b a = - Go.Lib.compareBytes a b
  | [], [] => rfl
  | [], _ :: _ => rfl
  | _ :: _, [] => rfl
  | x :: xs, y :: ys => by
    rw [cb_cons, cb_cons]
    by_cases h : x < y
    · rw [if_pos h, if_neg (UInt8.lt_asymm h), if_pos h]; rfl
    · rw [if_neg h, if_neg h]
      by_cases h' : y < x
      · rw [if_pos h', if_pos h']
      · rw [if_neg h', if_neg h', cmp_neg xs ys]
theorem cmp_eq0 : ∀ (a b : List UInt8), Go.Lib.compareBytes a b = 0 ↔ a = b
  | [], [] => by simp [Go.Lib.compareBytes]
  | [], _ :: _ => by simp [Go.Lib.compareBytes]
  | _ :: _, [] => by simp [Go.Lib.compareBytes]
  | x :: xs, y :: ys => by
    rw [cb_cons]
    by_cases h : x < y
    · rw [if_pos h]
      refine ⟨fun h => absurd h (by decide), fun e => ?_⟩
      injection e with e _; subst e; exact absurd h (UInt8.lt_irrefl _)
    · rw [if_neg h]
      by_cases h' : y < x
      · rw [if_pos h']
        refine ⟨fun h => absurd h (by decide), fun e => ?_⟩
        injection e with e _; subst e; exact absurd h' (UInt8.lt_irrefl _)
      · rw [if_neg h', cmp_eq0 xs ys, u8_tri h h']; simp
theorem cmp_less : ∀ (a b : List UInt8), decide (Go.Lib.compareBytes a b < 0) = Op.bytesLess a b
  | [], [] => rfl
  | [], _ :: _ => rfl
  | _ :: _, [] => rfl
  | x :: xs, y :: ys => by
    rw [cb_cons]
    unfold Op.bytesLess
    by_cases h : x < y
    · simp [h]
    · rw [if_neg h]
      by_cases h' : y < x
      · rw [if_pos h']
        have : x ≠ y := fun e => by subst e; exact UInt8.lt_irrefl _ h'
        simp [h, this]
      · rw [if_neg h', cmp_less xs ys]
        have := u8_tri h h'
        subst this
        simp [h]
theorem cb_nc (y : UInt8) (ys : List UInt8) : Go.Lib.compareBytes [] (y :: ys) = -1 := rfl
theorem cb_cn (y : UInt8) (ys : List UInt8) : Go.Lib.compareBytes (y :: ys) [] = 1 := rfl
theorem cmp_trans : ∀ (a b c : List UInt8), Go.Lib.compareBytes a b ≤ 0 → Go.Lib.compareBytes b c ≤ 0 → Go.Lib.compareBytes a c ≤ 0 ∧ (Go.Lib.compareBytes a b < 0 ∨ Go.Lib.compareBytes b c < 0 → Go.Lib.compareBytes a c < 0)
  | [], [], c => fun _ h => ⟨h, fun h => h.elim (fun h => absurd h (by decide)) id⟩
  | [], _ :: _, [] => fun _ h => by rw [cb_cn] at h; exact absurd h (by decide)
  | [], _ :: _, _ :: _ => fun _ _ => by rw [cb_nc]; exact ⟨by decide, fun _ => by decide⟩
  | _ :: _, [], _ => fun h _ => by rw [cb_cn] at h; exact absurd h (by decide)
  | _ :: _, _ :: _, [] => fun _ h => by rw [cb_cn] at h; exact absurd h (by decide)
  | x :: xs, y :: ys, z :: zs => by
    rw [cb_cons, cb_cons, cb_cons]
    by_cases h1 : x < y
    · by_cases h2 : y < z
      · rw [if_pos h1, if_pos h2, if_pos (UInt8.lt_trans h1 h2)]; exact fun _ _ => ⟨by decide, fun _ => by decide⟩
      · rw [if_pos h1, if_neg h2]
        by_cases h3 : z < y
        · rw [if_pos h3]; exact fun _ h => absurd h (by decide)
        · have := u8_tri h2 h3; subst this
          rw [if_neg h3, if_pos h1]; exact fun _ _ => ⟨by decide, fun _ => by decide⟩
    · rw [if_neg h1]
      by_cases h3 : y < x
      · rw [if_pos h3]; exact fun h => absurd h (by decide)
      · have := u8_tri h1 h3; subst this
        rw [if_neg h3]
        by_cases h2 : x < z
        · rw [if_pos h2, if_pos h2]; exact fun _ _ => ⟨by decide, fun _ => by decide⟩
        · rw [if_neg h2]
          by_cases h4 : z < x
          · rw [if_pos h4]; exact fun _ h => absurd h (by decide)
          · rw [if_neg h4, if_neg h2, if_neg h4]; exact cmp_trans xs ys zs
/-! orders -/
structure IsCmp {α : Type} (c : α → α → Int) : Prop where
  range : ∀ a b, c a b = -1 ∨ c a b = 0 ∨ c a b = 1
  neg : ∀ a b, c b a = - c a b
  trans : ∀ a b d, c a b ≤ 0 → c b d ≤ 0 → c a d ≤ 0 ∧ (c a b < 0 ∨ c b d < 0 → c a d < 0)
def icmp (a b : Int) : Int := if a < b then -1 else if a > b then 1 else 0
theorem icmp_is : IsCmp icmp := by
  refine ⟨fun a b => ?_, fun a b => ?_, fun a b d => ?_⟩
  · unfold icmp; split <;> (try split) <;> simp
  · unfold icmp; (repeat' split) <;> omega
  · unfold icmp; (repeat' split) <;> omega
theorem IsCmp.by {α β : Type} {c : β → β → Int} (h : IsCmp c) (f : α → β) : IsCmp (fun a b => c (f a) (f b)) := ⟨fun _ _ => h.range _ _, fun _ _ => h.neg _ _, fun _ _ _ => h.trans _ _ _⟩
theorem bytes_is : IsCmp Go.Lib.compareBytes := ⟨cmp_range, cmp_neg, cmp_trans⟩
def orC {α : Type} (c d : α → α → Int) (a b : α) : Int := if c a b ≠ 0 then c a b else d a b
theorem IsCmp.or {α : Type} {c d : α → α → Int} (h : IsCmp c) (k : IsCmp d) : IsCmp (orC c d) := by
  refine ⟨fun a b => ?_, fun a b => ?_, fun x y z => ?_⟩
  · unfold orC; split
    · exact h.range a b
    · exact k.range a b
  · unfold orC
    rw [h.neg a b, k.neg a b]
    split <;> split <;> omega
  · have t := h.trans x y z
    have t' := h.trans z y x
    have u := k.trans x y z
    have n1 := h.neg x y; have n2 := h.neg y z; have n3 := h.neg x z
    unfold orC
    (repeat' split) <;> omega
theorem IsCmp.refl {α : Type} {c : α → α → Int} (h : IsCmp c) (a : α) : c a a = 0 := by have := h.neg a a; omega
theorem w64 (n : Int) (h : -9223372036854775808 ≤ n ∧ n ≤ 9223372036854775807) : IntKind.i64.wrap n = n := by rw [IntKind.wrap_i64]; omega
def isB (l : List Int) : Prop := ∀ y ∈ l, 0 ≤ y ∧ y ≤ 255
theorem okL_isB {l : List Int} (h : okL 1 (okI .u8) l) : isB l := fun y hy => by
  have := h.2 y hy
  have e1 : IntKind.u8.min = 0 := rfl
  have e2 : IntKind.u8.max = 255 := rfl
  unfold okI at this
  omega
theorem okA_isB {l : List Int} {n : Nat} (h : okA .u8 n l) : isB l := fun y hy => by
  have := h.2 y hy
  have e1 : IntKind.u8.min = 0 := rfl
  have e2 : IntKind.u8.max = 255 := rfl
  unfold okI at this
  omega
theorem okL_len {l : List Int} {ok : Int → Prop} (h : okL 1 ok l) : l.length ≤ 140737488351232 := by have := h.1; unfold reachBytes at this; omega
theorem isB.app {a b : List Int} (h : isB a) (h' : isB b) : isB (a ++ b) := fun y hy => (List.mem_append.1 hy).elim (h y) (h' y)
theorem b2s_inj : ∀ {a b : List Int}, isB a → isB b → b2s a = b2s b → a = b
  | [], [], _, _, _ => rfl
  | [], _ :: _, _, _, h => by simp [b2s] at h
  | _ :: _, [], _, _, h => by simp [b2s] at h
  | x :: a, y :: b, ha, hb, h => by
    simp only [b2s, List.map_cons, List.cons.injEq] at h
    have h1 := ha x (by simp); have h2 := hb y (by simp)
    have e := congrArg UInt8.toNat h.1
    rw [UInt8.toNat_ofNat', UInt8.toNat_ofNat'] at e
    rw [b2s_inj (fun z hz => ha z (by simp [hz])) (fun z hz => hb z (by simp [hz])) h.2, show x = y by omega]
theorem b2s_beq {a b : List Int} (ha : isB a) (hb : isB b) : (b2s a == b2s b) = (a == b) := by
  rw [Bool.eq_iff_iff]
  simp only [beq_iff_eq]
  exact ⟨b2s_inj ha hb, fun e => by rw [e]⟩
theorem rd_at (l : List Int) (i : Nat) (hi : i < l.length) : rd l (i : Int) = l[i] := by simp [rd, List.getD, hi]
theorem ar_at (l : List Int) (i : Nat) (hi : i < l.length) : ar l i = l[i] := by simp [ar, List.getD, hi]
theorem arL_self (l : List Int) : arL l.length l = l := by
  apply List.ext_getElem
  · simp [arL]
  · intro i h1 h2
    simp [arL, ar_at l i h2]
/-! trimming zeros -/
theorem tr_nil (k : Nat) : bytes_trimRightByte.l0 0 (k + 1) [] = some [] := by unfold bytes_trimRightByte.l0; simp
theorem tr_snoc (k : Nat) (y : List Int) (c : Int) (h : y.length ≤ 100) : bytes_trimRightByte.l0 0 (k + 1) (y ++ [c]) = if c = 0 then bytes_trimRightByte.l0 0 k y else some (y ++ [c]) := by
  rw [bytes_trimRightByte.l0]
  have hl : (y ++ [c]).length = y.length + 1 := by simp
  have e : IntKind.i64.wrap (((y ++ [c]).length : Int) - 1) = (y.length : Int) := by rw [hl, IntKind.wrap_i64]; omega
  have er : rd (y ++ [c]) (y.length : Int) = c := by rw [rd_at _ _ (by simp)]; simp
  rw [e, er, if_pos (by simp <;> omega), if_pos (by rw [hl]; omega), Option.bind_some]
  by_cases hc : c = 0
  · rw [if_pos (by simpa using hc), if_pos (by rw [hl]; simp <;> omega), if_pos hc]
    simp
  · rw [if_neg (by simpa using hc), if_neg hc]
theorem tr_ok : ∀ (n k : Nat) (x : List Int), x.length = n → n < k → n ≤ 100 → ∃ r, bytes_trimRightByte.l0 0 k x = some r ∧ r.length ≤ x.length ∧ r.all (· == 0) = x.all (· == 0)
  | 0, k, x, h, hk, _ => by
    obtain ⟨k, rfl⟩ : ∃ k', k = k' + 1 := ⟨k - 1, by omega⟩
    obtain rfl := List.eq_nil_of_length_eq_zero h
    exact ⟨[], tr_nil k, Nat.le_refl _, rfl⟩
  | n + 1, k, x, h, hk, hn => by
    obtain ⟨k, rfl⟩ : ∃ k', k = k' + 1 := ⟨k - 1, by omega⟩
    have hne : x ≠ [] := by intro e; subst e; simp at h
    have hx : x = x.dropLast ++ [x.getLast hne] := (List.dropLast_concat_getLast hne).symm
    have hd : x.dropLast.length = n := by simp [h]
    generalize x.dropLast = y at hx hd
    generalize x.getLast hne = c at hx
    subst hx
    rw [tr_snoc k y c (by omega)]
    by_cases hc : c = 0
    · obtain ⟨r, h1, h2, h3⟩ := tr_ok n k y hd (by omega) (by omega)
      exact ⟨r, by rw [if_pos hc]; exact h1, by simp; omega, by rw [h3]; simp [hc]⟩
    · exact ⟨_, if_neg hc, Nat.le_refl _, rfl⟩
theorem tl_nil (k : Nat) : bytes_trimLeftByte.l0 0 (k + 1) [] = some [] := by unfold bytes_trimLeftByte.l0; simp
theorem tl_cons (k : Nat) (y : List Int) (c : Int) : bytes_trimLeftByte.l0 0 (k + 1) (c :: y) = if c = 0 then bytes_trimLeftByte.l0 0 k y else some (c :: y) := by
  rw [bytes_trimLeftByte.l0]
  have er : rd (c :: y) 0 = c := rfl
  rw [er, if_pos (by simp <;> omega), if_pos (by simp <;> omega), Option.bind_some]
  by_cases hc : c = 0
  · rw [if_pos (by simpa using hc), if_pos (by simp <;> omega), if_pos hc]
    simp
  · rw [if_neg (by simpa using hc), if_neg hc]
theorem tl_ok : ∀ (x : List Int) (k : Nat), x.length < k → ∃ r, bytes_trimLeftByte.l0 0 k x = some r ∧ (((r.length : Int) == 0) = x.all (· == 0))
  | [], k, hk => by
    obtain ⟨k, rfl⟩ : ∃ k', k = k' + 1 := ⟨k - 1, by omega⟩
    exact ⟨[], tl_nil k, rfl⟩
  | c :: y, k, hk => by
    obtain ⟨k, rfl⟩ : ∃ k', k = k' + 1 := ⟨k - 1, by omega⟩
    rw [tl_cons]
    by_cases hc : c = 0
    · obtain ⟨r, h1, h2⟩ := tl_ok y k (by simp at hk; omega)
      exact ⟨r, by rw [if_pos hc]; exact h1, by rw [h2]; simp [hc]⟩
    · refine ⟨_, if_neg hc, ?_⟩
      have : (c == 0) = false := by simpa using hc
      simp only [List.all_cons, this, Bool.false_and]
      simp
      omega
theorem trim_ok (k : Nat) (x : List Int) (hx : x.length ≤ 16) : ∃ r, bytes_Trim.f (k + 20) x [0] = some r ∧ (((r.length : Int) == 0) = x.all (· == 0)) := by
  by_cases h0 : x.length = 0
  · obtain rfl := List.eq_nil_of_length_eq_zero h0
    exact ⟨[], rfl, rfl⟩
  · obtain ⟨r, h1, h2, h3⟩ := tr_ok x.length (k + 20) x rfl (by omega) (by omega)
    obtain ⟨r', h4, h5⟩ := tl_ok r (k + 20) (by omega)
    have e : bytes_Trim.f (k + 20) x [0] = (bytes_trimRightByte.f (k + 20) x 0).bind fun t21 => (bytes_trimLeftByte.f (k + 20) t21 0).bind fun t24 => some t24 := by
      unfold bytes_Trim.f
      have hs : (((bstr ([0] : List UInt8)).size : Int) == (1 : Int)) = true := rfl
      have ez : ((([0] : List UInt8).getD (Int.toNat (0 : Int)) 0).toNat : Int) = 0 := rfl
      rw [if_neg (by simpa using h0), if_neg (by rw [bstr_toList, bstr_toList]; decide), if_pos hs, ez, if_pos (by decide), Option.bind_some, if_pos (by decide), if_pos (by decide), if_pos (by decide)]
    rw [e]
    unfold bytes_trimRightByte.f bytes_trimLeftByte.f
    rw [h1, Option.bind_some, Option.bind_some, h4, Option.bind_some]
    by_cases hr : r'.length = 0
    · obtain rfl := List.eq_nil_of_length_eq_zero hr
      exact ⟨[], rfl, by rw [← h3, ← h5]⟩
    · rw [if_neg (by simpa using hr)]
      exact ⟨r', rfl, by rw [h5, h3]⟩
/-! addresses -/
def isSz (n : Int) : Bool := n == 0 || n == 4 || n == 16
def rightB (a : S_api_Addr) : Bool := isSz a.Size && ((arL 16 a.B).drop a.Size.toNat).all (· == 0)
theorem isSz_or {n : Int} (h : isSz n = true) : n = 0 ∨ n = 4 ∨ n = 16 := by
  unfold isSz at h
  simp only [Bool.or_eq_true, beq_iff_eq] at h
  omega
theorem right_go (k : Nat) (a : S_api_Addr) (h : a.Size = 0 ∨ a.Size = 4 ∨ a.Size = 16) : addr_Right.f (k + 20) a = some (((arL 16 a.B).drop a.Size.toNat).all (· == 0)) := by
  have h16 : (arL 16 a.B).length = 16 := arL_length _ _
  have ht : (arL 16 a.B).take (Int.toNat 16) = arL 16 a.B := by rw [List.take_of_length_le]; rw [h16]; exact Nat.le_refl _
  obtain ⟨r, h1, h2⟩ := trim_ok k ((arL 16 a.B).drop a.Size.toNat) (by rw [List.length_drop, h16]; omega)
  have hc : (if (a.Size == (0 : Int)) = true then some (a.Size == (0 : Int) : Bool) else (if (a.Size == (4 : Int)) = true then some (a.Size == (4 : Int) : Bool) else some (a.Size == (16 : Int) : Bool))) = some true := by
    rcases h with h | h | h <;> simp [h]
  unfold addr_Right.f
  rw [ht, hc, Option.bind_some, if_pos rfl, if_pos (by omega), h1, Option.bind_some, h2]
theorem right_ok (k : Nat) (a : S_api_Addr) : addr_Right.f (k + 20) a = some (rightB a) := by
  by_cases h : a.Size = 0 ∨ a.Size = 4 ∨ a.Size = 16
  · rw [right_go k a h]
    have : isSz a.Size = true := by unfold isSz; simp; omega
    unfold rightB
    rw [this, Bool.true_and]
  · have h0 : ¬ a.Size = 0 := by omega
    have h4 : ¬ a.Size = 4 := by omega
    have h16 : ¬ a.Size = 16 := by omega
    unfold addr_Right.f rightB isSz
    simp [h0, h4, h16]
def zeros : List Int := List.replicate 16 0
theorem eqA_eq {x y : List Int} (hx : x.length = 16) (hy : y.length = 16) : eqA 16 x y = (x == y) := by
  rw [Bool.eq_iff_iff, eqA_iff]
  simp only [beq_iff_eq]
  refine ⟨fun h => ?_, fun e => by subst e; exact fun _ _ => rfl⟩
  apply List.ext_getElem
  · omega
  · intro i h1 h2
    have := h i (by omega)
    rwa [ar_at _ _ h1, ar_at _ _ h2] at this
theorem addr_eq {a b : S_api_Addr} (ha : a.B.length = 16) (hb : b.B.length = 16) : ((a.Size == b.Size) && (eqA 16 a.B b.B && true)) = decide (a = b) := by
  rw [eqA_eq ha hb, Bool.eq_iff_iff]
  obtain ⟨s, x⟩ := a
  obtain ⟨s', x'⟩ := b
  simp
/-! bits of addresses -/
def bitL (l : List Int) (i : Nat) : Bool := (ar l (i / 8)).toNat.testBit (7 - i % 8)
theorem bits_ext {x y : List Int} (hx : x.length = 16) (hy : y.length = 16) (Bx : isB x) (By : isB y) (h : ∀ i, i < 128 → bitL x i = bitL y i) : x = y := by
  apply List.ext_getElem
  · omega
  · intro j h1 h2
    have b1 := Bx x[j] (List.getElem_mem h1)
    have b2 := By y[j] (List.getElem_mem h2)
    have e : (x[j]).toNat = (y[j]).toNat := by
      apply Nat.eq_of_testBit_eq
      intro k
      by_cases hk : k < 8
      · have := h (8 * j + (7 - k)) (by omega)
        unfold bitL at this
        rw [show (8 * j + (7 - k)) / 8 = j by omega, show 7 - (8 * j + (7 - k)) % 8 = k by omega, ar_at _ _ h1, ar_at _ _ h2] at this
        exact this
      · have p : 256 ≤ 2 ^ k := by
          have := Nat.pow_le_pow_right (n := 2) (by decide) (show 8 ≤ k by omega)
          simpa using this
        rw [Nat.testBit_lt_two_pow (by omega), Nat.testBit_lt_two_pow (by omega)]
    omega
def maskI (m : Int) : Int := if m ≤ 0 then 0 else if m ≥ 8 then 255 else IntKind.u8.wrap (255 * 2 ^ (8 - m).toNat)
theorem mask_ok (m : Int) (h : -1000 ≤ m ∧ m ≤ 1000) : addr_mask.f m = some (maskI m) := by
  unfold addr_mask.f maskI
  simp only [decide_eq_true_eq]
  split
  · rfl
  · split
    · rfl
    · rw [w64 _ (by omega), if_pos (by omega), Nat.min_eq_left (by have : IntKind.u8.bits = 8 := rfl; omega)]
theorem mask_small : ∀ m : Fin 8, 1 ≤ m.val → 0 ≤ maskI (m.val : Int) ∧ maskI (m.val : Int) ≤ 255 ∧ ∀ j : Fin 8, (maskI (m.val : Int)).toNat.testBit (7 - j.val) = decide (j.val < m.val) := by decide
theorem mask_range (m : Int) : 0 ≤ maskI m ∧ maskI m ≤ 255 := by
  by_cases h1 : m ≤ 0
  · unfold maskI; rw [if_pos h1]; decide
  · by_cases h2 : m ≥ 8
    · unfold maskI; rw [if_neg h1, if_pos h2]; decide
    · have := mask_small ⟨m.toNat, by omega⟩ (by simp; omega)
      simp only [show ((m.toNat : Nat) : Int) = m by omega] at this
      exact ⟨this.1, this.2.1⟩
theorem mask_bit (m : Int) (j : Nat) (hj : j < 8) : (maskI m).toNat.testBit (7 - j) = decide ((j : Int) < m) := by
  by_cases h1 : m ≤ 0
  · unfold maskI; rw [if_pos h1]; simp; omega
  · by_cases h2 : m ≥ 8
    · unfold maskI; rw [if_neg h1, if_pos h2]
      have : ∀ j : Fin 8, (255 : Int).toNat.testBit (7 - j.val) = true := by decide
      rw [this ⟨j, hj⟩]
      simp; omega
    · have := (mask_small ⟨m.toNat, by omega⟩ (by simp; omega)).2.2 ⟨j, hj⟩
      simp only [show ((m.toNat : Nat) : Int) = m by omega] at this
      rw [this, Bool.eq_iff_iff]
      simp only [decide_eq_true_eq]
      omega
def andI (x y : Int) : Int := ((x.toNat &&& y.toNat : Nat) : Int)
theorem and_u8 (x y : Int) (hx : 0 ≤ x ∧ x ≤ 255) (hy : 0 ≤ y ∧ y ≤ 255) : IntKind.u8.wrap (BitVec.ofInt IntKind.u8.bits x &&& BitVec.ofInt IntKind.u8.bits y).toNat = andI x y := by
  rw [BitVec.toNat_and, BitVec.toNat_ofInt, BitVec.toNat_ofInt]
  have e : IntKind.u8.bits = 8 := rfl
  rw [e]
  have h1 : (x % ((2 ^ 8 : Nat) : Int)).toNat = x.toNat := by
    have : ((2 ^ 8 : Nat) : Int) = 256 := rfl
    omega
  have h2 : (y % ((2 ^ 8 : Nat) : Int)).toNat = y.toNat := by
    have : ((2 ^ 8 : Nat) : Int) = 256 := rfl
    omega
  rw [h1, h2]
  have h3 : x.toNat &&& y.toNat ≤ x.toNat := Nat.and_le_left
  unfold andI
  rw [IntKind.wrap_u8]; omega
theorem andI_range (x y : Int) (hx : 0 ≤ x ∧ x ≤ 255) : 0 ≤ andI x y ∧ andI x y ≤ 255 := by
  have h3 : x.toNat &&& y.toNat ≤ x.toNat := Nat.and_le_left
  unfold andI
  omega
def cutTo (l : List Int) (b : Int) (i : Nat) : List Int := (List.range 16).map fun j => if j < i then andI (ar l j) (maskI (b - 8 * j)) else ar l j
def cutL (l : List Int) (b : Int) : List Int := cutTo l b 16
theorem cutTo_len (l : List Int) (b : Int) (i : Nat) : (cutTo l b i).length = 16 := by simp [cutTo]
theorem cutTo_ar (l : List Int) (b : Int) (i j : Nat) (hj : j < 16) : ar (cutTo l b i) j = if j < i then andI (ar l j) (maskI (b - 8 * j)) else ar l j := by
  rw [ar_at _ _ (by rw [cutTo_len]; exact hj)]
  simp [cutTo]
theorem ar_isB {l : List Int} (h : isB l) (j : Nat) : 0 ≤ ar l j ∧ ar l j ≤ 255 := by
  by_cases hj : j < l.length
  · rw [ar_at l j hj]; exact h _ (List.getElem_mem hj)
  · have : ar l j = 0 := by simp [ar, List.getD, List.getElem?_eq_none (Nat.not_lt.1 hj)]
    rw [this]; decide
theorem cutTo_step (l : List Int) (b : Int) (i : Nat) (hi : i < 16) : (arL 16 (cutTo l b i)).set i (andI (ar (cutTo l b i) i) (maskI (b - 8 * i))) = cutTo l b (i + 1) := by
  have e : arL 16 (cutTo l b i) = cutTo l b i := by
    have := arL_self (cutTo l b i)
    rwa [cutTo_len] at this
  rw [e, cutTo_ar _ _ _ _ hi, if_neg (Nat.lt_irrefl i)]
  apply List.ext_getElem
  · simp [cutTo_len]
  · intro j h1 h2
    rw [List.getElem_set]
    have hj : j < 16 := by rwa [cutTo_len] at h2
    simp only [cutTo, List.getElem_map, List.getElem_range]
    by_cases h : i = j
    · subst h; rw [if_pos rfl, if_pos (by omega)]
    · rw [if_neg h]
      by_cases h' : j < i
      · rw [if_pos h', if_pos (by omega)]
      · rw [if_neg h', if_neg (by omega)]
theorem cut_go (l : List Int) (hl : isB l) (b : Int) (hb : -500 ≤ b ∧ b ≤ 500) : ∀ (m i k : Nat), 16 - i ≤ m → i ≤ 16 → addr_cut.l0 b (m + 1 + k) (i : Int) (cutTo l b i) = some (cutL l b) := by
  intro m
  induction m with
  | zero =>
    intro i k h1 h2
    have : i = 16 := by omega
    subst this
    rw [show 0 + 1 + k = k + 1 by omega]
    unfold addr_cut.l0
    simp [cutL]
  | succ m ih =>
    intro i k h1 h2
    rw [show m + 1 + 1 + k = (m + 1 + k) + 1 by omega]
    by_cases hi : i = 16
    · subst hi
      unfold addr_cut.l0
      simp [cutL]
    · have hi' : i < 16 := by omega
      unfold addr_cut.l0
      rw [if_pos (by simp; omega), if_pos ⟨by omega, by omega⟩, w64 (8 * (i : Int)) (by omega), w64 (b - 8 * (i : Int)) (by omega), mask_ok _ (by omega), Option.bind_some, if_pos ⟨by omega, by omega⟩, Int.toNat_natCast,
        and_u8 _ _ (ar_isB (fun y hy => ?_) i) (mask_range _), cutTo_step l b i hi', w64 _ (by omega), show (i : Int) + 1 = ((i + 1 : Nat) : Int) by omega]
      · exact ih (i + 1) k (by omega) (by omega)
      · simp only [cutTo, List.mem_map, List.mem_range] at hy
        obtain ⟨j, _, rfl⟩ := hy
        split
        · exact andI_range _ _ (ar_isB hl j)
        · exact ar_isB hl j
theorem cutL_isB {l : List Int} (hl : isB l) (b : Int) : isB (cutL l b) := fun y hy => by
  simp only [cutL, cutTo, List.mem_map, List.mem_range] at hy
  obtain ⟨j, hj, rfl⟩ := hy
  first
    | exact andI_range _ _ (ar_isB hl j)
    | (rw [if_pos hj]; exact andI_range _ _ (ar_isB hl j))
theorem cutTo_0 (l : List Int) (hl : l.length = 16) (b : Int) : cutTo l b 0 = l := by
  have := arL_self l
  rw [hl] at this
  unfold arL at this
  simp only [cutTo, Nat.not_lt_zero, if_false]
  exact this
theorem cutf_ok (k : Nat) (a : S_api_Addr) (ha : isB a.B) (hl : a.B.length = 16) (b : Int) (hb : -500 ≤ b ∧ b ≤ 500) : addr_cut.f (k + 20) a b = some ⟨a.Size, cutL a.B b⟩ := by
  unfold addr_cut.f
  have := cut_go a.B ha b hb 16 0 (k + 3) (by omega) (by omega)
  rw [cutTo_0 _ hl] at this
  rw [show k + 20 = 16 + 1 + (k + 3) by omega, show (0 : Int) = ((0 : Nat) : Int) from rfl, this]
  rfl
theorem cut_bit (l : List Int) (b : Int) (i : Nat) (hi : i < 128) : bitL (cutL l b) i = (bitL l i && decide ((i : Int) < b)) := by
  unfold bitL cutL
  rw [cutTo_ar _ _ _ _ (by omega), if_pos (by omega)]
  unfold andI
  rw [Int.toNat_natCast, Nat.testBit_and, mask_bit _ _ (by omega)]
  congr 1
  rw [Bool.eq_iff_iff]
  simp
  omega
/-! cut, has -/
def zs16 : List Int := List.replicate 16 0
def cutOk (a : S_api_Addr) (b : Int) : Bool := rightB a && (a.Size != 0 && (decide (0 ≤ b) && decide (b ≤ 8 * a.Size)))
theorem rightB_size {a : S_api_Addr} (h : rightB a = true) : a.Size = 0 ∨ a.Size = 4 ∨ a.Size = 16 := isSz_or (by unfold rightB at h; simp only [Bool.and_eq_true] at h; exact h.1)
theorem cutOk_range {a : S_api_Addr} {b : Int} (h : cutOk a b = true) : rightB a = true ∧ (a.Size = 4 ∨ a.Size = 16) ∧ 0 ≤ b ∧ b ≤ 8 * a.Size ∧ b ≤ 128 := by
  unfold cutOk at h
  simp only [Bool.and_eq_true, decide_eq_true_eq, bne_iff_ne, ne_eq] at h
  have := rightB_size h.1
  refine ⟨h.1, ?_, h.2.2.1, h.2.2.2, ?_⟩ <;> omega
def cutP (a : S_api_Addr) (b : Int) : S_api_Prefix := ⟨⟨a.Size, cutL a.B b⟩, b⟩
theorem Cut_ok (k : Nat) (a : S_api_Addr) (ha : isB a.B) (hl : a.B.length = 16) (b : Int) : addr_Cut.f (k + 20) a b = some (if cutOk a b = true then (cutP a b, 0) else (⟨⟨0, zs16⟩, 0⟩, 1)) := by
  unfold addr_Cut.f
  rw [right_ok, Option.bind_some]
  by_cases h1 : rightB a = true
  · have hs := rightB_size h1
    rw [h1]
    simp only [Bool.not_true, Bool.false_eq_true, if_false]
    by_cases h2 : a.Size = 0
    · rw [if_pos (by simp [h2]), Option.bind_some, if_pos rfl, if_neg (by simp [cutOk, h2])]; rfl
    · rw [if_neg (by simpa using h2)]
      by_cases h3 : b < 0
      · rw [if_pos (by simpa using h3), Option.bind_some, if_pos rfl, if_neg (by simp [cutOk]; omega)]; rfl
      · rw [if_neg (by simpa using h3), Option.bind_some, w64 _ (by omega)]
        by_cases h4 : b > 8 * a.Size
        · rw [if_pos (by simpa using h4), if_neg (by simp [cutOk]; omega)]; rfl
        · rw [if_neg (by simpa using h4), if_pos (by simp [cutOk, h1, h2]; omega), cutf_ok k a ha hl b (by omega)]
          rfl
  · have : rightB a = false := by simpa using h1
    rw [this]
    simp only [Bool.not_false, if_true, Option.bind_some]
    rw [if_neg (by simp [cutOk, this])]
    rfl
theorem pre_eq {p q : S_api_Prefix} (hp : p.Addr.B.length = 16) (hq : q.Addr.B.length = 16) : ((((p.Addr.Size == q.Addr.Size) && ((eqA 16 p.Addr.B q.Addr.B) && true)) && ((p.Bits == q.Bits) && true))) = decide (p = q) := by
  rw [addr_eq hp hq, Bool.eq_iff_iff]
  obtain ⟨a, x⟩ := p
  obtain ⟨b, y⟩ := q
  simp
theorem cutL_len (l : List Int) (b : Int) : (cutL l b).length = 16 := cutTo_len l b 16
def rightP (p : S_api_Prefix) : Bool := cutOk p.Addr p.Bits && (cutL p.Addr.B p.Bits == p.Addr.B)
theorem rightP_ok (k : Nat) (p : S_api_Prefix) (hB : isB p.Addr.B) (hl : p.Addr.B.length = 16) : addr_right.f (k + 20) p = some (rightP p) := by
  unfold addr_right.f
  rw [Cut_ok k _ hB hl, Option.bind_some]
  by_cases h : cutOk p.Addr p.Bits = true
  · rw [if_pos h]
    simp only [beq_self_eq_true, if_true, Option.bind_some]
    rw [pre_eq (by unfold cutP; exact cutL_len _ _) hl]
    unfold rightP
    rw [h, Option.some.injEq, Bool.eq_iff_iff]
    obtain ⟨⟨s, l⟩, b⟩ := p
    simp [cutP]
  · rw [if_neg h]
    have : cutOk p.Addr p.Bits = false := by simpa using h
    unfold rightP
    rw [this]
    rfl
def hasB (p : S_api_Prefix) (a : S_api_Addr) : Bool := rightP p && (rightB a && ((a.Size == p.Addr.Size) && (cutL a.B p.Bits == p.Addr.B)))
theorem has_ok (k : Nat) (p : S_api_Prefix) (a : S_api_Addr) (hB : isB p.Addr.B) (hl : p.Addr.B.length = 16) (hBa : isB a.B) (hla : a.B.length = 16) : addr_Has.f (k + 20) p a = some (hasB p a) := by
  unfold addr_Has.f
  rw [rightP_ok k p hB hl, right_ok]
  simp only [Option.bind_some]
  unfold hasB
  cases hp : rightP p with
  | false => rfl
  | true =>
    have hr := cutOk_range (a := p.Addr) (b := p.Bits) (by unfold rightP at hp; simp only [Bool.and_eq_true] at hp; exact hp.1)
    rw [if_pos rfl]
    cases hq : rightB a with
    | false => rfl
    | true =>
      rw [if_pos rfl]
      by_cases hs : a.Size = p.Addr.Size
      · rw [if_pos (by simpa using hs), cutf_ok k a hBa hla p.Bits (by omega), Option.bind_some, Option.bind_some, eqA_eq (cutL_len _ _) hl]
        simp [hs]
      · rw [if_neg (by simpa using hs), Option.bind_some]
        simp [hs]
theorem cut_cut (l : List Int) (hl : isB l) (i k : Int) : cutL (cutL l i) k = cutL l (min i k) := by
  refine bits_ext (cutL_len _ _) (cutL_len _ _) (cutL_isB (cutL_isB hl i) k) (cutL_isB hl _) fun j hj => ?_
  rw [cut_bit _ _ _ hj, cut_bit _ _ _ hj, cut_bit _ _ _ hj, Bool.and_assoc]
  congr 1
  rw [Bool.eq_iff_iff]
  simp only [Bool.and_eq_true, decide_eq_true_eq]
  omega
theorem rightB_iff (a : S_api_Addr) : rightB a = true ↔ isSz a.Size = true ∧ ∀ j, a.Size.toNat ≤ j → j < 16 → ar a.B j = 0 := by
  unfold rightB
  rw [Bool.and_eq_true, List.all_eq_true]
  refine and_congr_right fun _ => ⟨fun h j h1 h2 => ?_, fun h x hx => ?_⟩
  · have := h (ar a.B j) (by
      rw [List.mem_iff_getElem]
      refine ⟨j - a.Size.toNat, by rw [List.length_drop, arL_length]; omega, ?_⟩
      rw [List.getElem_drop]
      simp only [arL, List.getElem_map, List.getElem_range]
      congr 1; omega)
    simpa using this
  · obtain ⟨i, hi, rfl⟩ := List.mem_iff_getElem.1 hx
    rw [List.length_drop, arL_length] at hi
    rw [List.getElem_drop]
    simp only [arL, List.getElem_map, List.getElem_range, beq_iff_eq]
    exact h _ (by omega) (by omega)
theorem right_cut {a : S_api_Addr} (b : Int) (h : rightB a = true) : rightB ⟨a.Size, cutL a.B b⟩ = true := by
  rw [rightB_iff] at h ⊢
  refine ⟨h.1, fun j h1 h2 => ?_⟩
  unfold cutL
  simp only
  rw [cutTo_ar _ _ _ _ h2, if_pos h2, h.2 j h1 h2]
  simp [andI]
theorem cutP_right {a : S_api_Addr} {b : Int} (ha : isB a.B) (h : cutOk a b = true) : rightP (cutP a b) = true := by
  unfold rightP cutP
  simp only [cut_cut _ ha, Bool.and_eq_true, beq_iff_eq]
  have hr := cutOk_range h
  refine ⟨?_, by rw [Int.min_self]⟩
  unfold cutOk
  rw [right_cut b hr.1]
  simp
  omega
theorem has_cutP {a c : S_api_Addr} {b : Int} (ha : isB a.B) (h : cutOk a b = true) : hasB (cutP a b) c = (rightB c && ((c.Size == a.Size) && (cutL c.B b == cutL a.B b))) := by
  unfold hasB
  rw [cutP_right ha h]
  rfl
/-! decimal numerals -/
theorem dec_digit : ∀ (u : Nat), ∀ c ∈ Lib.decDigits u, 48 ≤ c.toNat ∧ c.toNat ≤ 57 := by
  intro u
  induction u using Nat.strongRecOn with
  | ind u ih =>
    intro c hc
    rw [Lib.decDigits] at hc
    split at hc
    · simp only [List.mem_singleton] at hc
      subst hc
      rw [UInt8.toNat_ofNat']; omega
    · rcases List.mem_append.1 hc with h | h
      · exact ih (u / 10) (by omega) c h
      · simp only [List.mem_singleton] at h
        subst h
        rw [UInt8.toNat_ofNat']; omega
theorem dec_ne (u : Nat) : Lib.decDigits u ≠ [] := by
  rw [Lib.decDigits]
  split <;> simp
def ofDec (l : List UInt8) : Nat := l.foldl (fun n c => n * 10 + (c.toNat - 48)) 0
theorem ofDec_dec : ∀ (u : Nat), ofDec (Lib.decDigits u) = u := by
  intro u
  induction u using Nat.strongRecOn with
  | ind u ih =>
    rw [Lib.decDigits]
    split
    · unfold ofDec
      simp only [List.foldl_cons, List.foldl_nil, UInt8.toNat_ofNat']; omega
    · have := ih (u / 10) (by omega)
      unfold ofDec at this ⊢
      rw [List.foldl_append, this]
      simp only [List.foldl_cons, List.foldl_nil, UInt8.toNat_ofNat']; omega
theorem dec_inj {u v : Nat} (h : Lib.decDigits u = Lib.decDigits v) : u = v := by rw [← ofDec_dec u, ← ofDec_dec v, h]
theorem itoa_nat (n : Int) (h : 0 ≤ n) : Lib.itoa n = Lib.decDigits n.toNat := by unfold Lib.itoa; rw [if_neg (by omega)]
theorem itoa_inj {n m : Int} (hn : 0 ≤ n) (hm : 0 ≤ m) (h : Lib.itoa n = Lib.itoa m) : n = m := by
  rw [itoa_nat n hn, itoa_nat m hm] at h
  have := dec_inj h
  omega
theorem itoa_free (n : Int) (h : 0 ≤ n) (c : UInt8) (hc : c.toNat < 48 ∨ 57 < c.toNat) : c ∉ Lib.itoa n := by
  rw [itoa_nat n h]
  intro hm
  have := dec_digit _ c hm
  omega
theorem cut_at {c : UInt8} : ∀ {a a' x x' : List UInt8}, c ∉ a → c ∉ a' → a ++ c :: x = a' ++ c :: x' → a = a' ∧ x = x'
  | [], [], _, _, _, _, h => ⟨rfl, (List.cons.inj h).2⟩
  | [], y :: a', _, _, _, h', h => by
    exfalso; exact h' (by rw [(List.cons.inj h).1]; simp)
  | y :: a, [], _, _, h', _, h => by
    exfalso; exact h' (by rw [← (List.cons.inj h).1]; simp)
  | y :: a, z :: a', x, x', h1, h2, h => by
    obtain ⟨e1, e2⟩ := List.cons.inj h
    obtain ⟨e3, e4⟩ := cut_at (fun hh => h1 (by simp [hh])) (fun hh => h2 (by simp [hh])) e2
    exact ⟨by rw [e1, e3], e4⟩
theorem dec_len : ∀ (u : Nat), (Lib.decDigits u).length ≤ u + 1 := by
  intro u
  induction u using Nat.strongRecOn with
  | ind u ih =>
    rw [Lib.decDigits]
    split
    · simp
    · have := ih (u / 10) (by omega)
      rw [List.length_append, List.length_singleton]; omega
/-! an address of four bytes as a text -/
def nums4 (l : List Int) : List (List UInt8) := [Lib.itoa (ar l 0), Lib.itoa (ar l 1), Lib.itoa (ar l 2), Lib.itoa (ar l 3)]
def txt4 (l : List Int) : List UInt8 := Lib.join (nums4 l) [46]
theorem take4 (l : List Int) : (((arL 16 l).take (Int.toNat (4 : Int))).drop (Int.toNat (0 : Int))) = [ar l 0, ar l 1, ar l 2, ar l 3] := rfl
theorem itoa_f (n : Int) (h : 0 ≤ n ∧ n ≤ 255) : strconv_Itoa.f (IntKind.i64.wrap n) = some (Lib.itoa n) := by
  unfold strconv_Itoa.f
  rw [w64 _ (by omega), if_pos (by omega)]
theorem text4_go (a : S_api_Addr) (hB : isB a.B) (k : Nat) : addr_Text.l0 a (k + 5) [] 0 = some (nums4 a.B) := by
  have h0 := ar_isB hB 0; have h1 := ar_isB hB 1; have h2 := ar_isB hB 2; have h3 := ar_isB hB 3
  have r0 : rd [ar a.B 0, ar a.B 1, ar a.B 2, ar a.B 3] 0 = ar a.B 0 := rfl
  have r1 : rd [ar a.B 0, ar a.B 1, ar a.B 2, ar a.B 3] 1 = ar a.B 1 := rfl
  have r2 : rd [ar a.B 0, ar a.B 1, ar a.B 2, ar a.B 3] 2 = ar a.B 2 := rfl
  have r3 : rd [ar a.B 0, ar a.B 1, ar a.B 2, ar a.B 3] 3 = ar a.B 3 := rfl
  have w1 : IntKind.i64.wrap (0 + 1) = 1 := by decide
  have w2 : IntKind.i64.wrap (1 + 1) = 2 := by decide
  have w3 : IntKind.i64.wrap (2 + 1) = 3 := by decide
  have w4 : IntKind.i64.wrap (3 + 1) = 4 := by decide
  rw [addr_Text.l0, take4, if_pos (by simp), if_pos (by simp), r0, itoa_f _ h0, Option.bind_some, if_pos (by simp), w1,
    addr_Text.l0, take4, if_pos (by simp), if_pos (by simp), r1, itoa_f _ h1, Option.bind_some, if_pos (by simp), w2,
    addr_Text.l0, take4, if_pos (by simp), if_pos (by simp), r2, itoa_f _ h2, Option.bind_some, if_pos (by simp), w3,
    addr_Text.l0, take4, if_pos (by simp), if_pos (by simp), r3, itoa_f _ h3, Option.bind_some, if_pos (by simp), w4,
    addr_Text.l0, take4, if_neg (by simp)]
  rfl
theorem txt4_eq (l : List Int) : txt4 l = Lib.itoa (ar l 0) ++ 46 :: (Lib.itoa (ar l 1) ++ 46 :: (Lib.itoa (ar l 2) ++ 46 :: Lib.itoa (ar l 3))) := by
  unfold txt4 nums4 Lib.join
  simp [List.intercalate, List.intersperse]
theorem text4_ok (k : Nat) (a : S_api_Addr) (hr : rightB a = true) (h4 : a.Size = 4) (hB : isB a.B) : addr_Text.f (k + 20) a = some (txt4 a.B) := by
  have len : ∀ i, (Lib.itoa (ar a.B i)).length ≤ 256 := fun i => by
    have := ar_isB hB i
    rw [itoa_nat _ this.1]
    have := dec_len (ar a.B i).toNat
    omega
  have l0 := len 0; have l1 := len 1; have l2 := len 2; have l3 := len 3
  unfold addr_Text.f
  rw [right_ok, hr, Option.bind_some, if_neg (by simp), if_pos (by simp [h4]), if_pos (by decide), text4_go a hB (k + 15), Option.bind_some]
  unfold strings_Join.f
  have e := congrArg List.length (txt4_eq a.B)
  simp only [List.length_append, List.length_cons] at e
  have el : (Lib.join (nums4 a.B) [46]).length = (txt4 a.B).length := rfl
  rw [if_pos ⟨by simp [nums4], by rw [el]; omega⟩]
  rfl
theorem txt4_inj {l m : List Int} (hl : isB l) (hm : isB m) (h : txt4 l = txt4 m) : ar l 0 = ar m 0 ∧ ar l 1 = ar m 1 ∧ ar l 2 = ar m 2 ∧ ar l 3 = ar m 3 := by
  rw [txt4_eq, txt4_eq] at h
  have fr : ∀ (x : List Int), isB x → ∀ i, (46 : UInt8) ∉ Lib.itoa (ar x i) := fun x hx i => itoa_free _ (ar_isB hx i).1 _ (.inl (by decide))
  obtain ⟨e0, h⟩ := cut_at (fr l hl 0) (fr m hm 0) h
  obtain ⟨e1, h⟩ := cut_at (fr l hl 1) (fr m hm 1) h
  obtain ⟨e2, h⟩ := cut_at (fr l hl 2) (fr m hm 2) h
  exact ⟨itoa_inj (ar_isB hl 0).1 (ar_isB hm 0).1 e0, itoa_inj (ar_isB hl 1).1 (ar_isB hm 1).1 e1, itoa_inj (ar_isB hl 2).1 (ar_isB hm 2).1 e2, itoa_inj (ar_isB hl 3).1 (ar_isB hm 3).1 h⟩
theorem txt4_free (l : List Int) (hl : isB l) : (58 : UInt8) ∉ txt4 l := by
  have fr : ∀ i, (58 : UInt8) ∉ Lib.itoa (ar l i) := fun i => itoa_free _ (ar_isB hl i).1 _ (.inr (by decide))
  rw [txt4_eq]
  simp [fr]
/-! numbers between signs, read -/
theorem dec_le (s : List UInt8) (p : Nat) : (dec s p).1 ≤ 2147483647 := decode_le (bstr s) p
theorem dec_ascii (s : List UInt8) (p : Nat) (h : p < s.length) (ha : (s[p]).toNat < 128) : dec s p = ((s[p]).toNat, 1) := decode_ascii (bstr s) p h ha
theorem dec_high (s : List UInt8) (p : Nat) (h : p < s.length) (ha : 128 ≤ (s[p]).toNat) : 128 ≤ (dec s p).1 ∧ 1 ≤ (dec s p).2 := decode_high (bstr s) p h ha
theorem dec_pos (s : List UInt8) (p : Nat) (h : p < s.length) : 1 ≤ (dec s p).2 := by
  by_cases ha : (s[p]).toNat < 128
  · rw [dec_ascii s p h ha]; exact Nat.le_refl _
  · exact (dec_high s p h (by omega)).2
def digV (c base : Nat) : Option Nat :=
  if 48 ≤ c ∧ c ≤ 57 then (if c - 48 < base then some (c - 48) else none)
  else if 97 ≤ c ∧ c ≤ 102 then (if c - 87 < base then some (c - 87) else none) else none
theorem w32 (n : Int) (h : -2147483648 ≤ n ∧ n ≤ 2147483647) : IntKind.i32.wrap n = n := by rw [IntKind.wrap_i32]; omega
theorem value_ok (c base : Nat) (hc : c ≤ 2147483647) (hb : base ≤ 16) : addr_value.f (c : Int) (base : Int) = some (match digV c base with
    | some d => ((d : Int), true)
    | none => (if 48 ≤ c ∧ c ≤ 57 then (c : Int) - 48 else if 97 ≤ c ∧ c ≤ 102 then (c : Int) - 87 else base, false)) := by
  unfold addr_value.f digV
  by_cases h1 : 48 ≤ c ∧ c ≤ 57
  · rw [if_pos (by simp; omega), w32 _ (by omega), w64 _ (by omega), if_pos h1]
    by_cases h2 : c - 48 < base
    · rw [if_pos h2, decide_eq_true (by omega)]; simp; omega
    · rw [if_neg h2, decide_eq_false (by omega)]; simp [h1]
  · rw [if_neg (by simp; omega), if_neg h1]
    by_cases h3 : 97 ≤ c ∧ c ≤ 102
    · rw [if_pos (by simp; omega), w32 _ (by omega), w64 ((c : Int) - 97) (by omega), w64 _ (by omega), if_pos h3]
      by_cases h2 : c - 87 < base
      · rw [if_pos h2, decide_eq_true (by omega)]; simp; omega
      · rw [if_neg h2, decide_eq_false (by omega)]; simp [h1, h3]; omega
    · rw [if_neg (by simp; omega), if_neg h3]
      simp [h1, h3]
theorem last_rd (out : List Int) (v : Int) : rd (out ++ [v]) ((out.length : Nat) : Int) = v := by
  rw [rd_at _ _ (by simp)]; simp
theorem last_set (out : List Int) (v n : Int) : (out ++ [v]).set out.length n = out ++ [n] := by
  rw [List.set_append_right _ _ (Nat.le_refl _)]; simp
def nextN (v : Int) (base d : Nat) : Int := (if v < 0 then 0 else v) * base + d
theorem parts_step (s : List UInt8) (sep base limit : Nat) (hb : base ≤ 16) (hl : limit ≤ 65536) (k : Nat) (out : List Int) (v : Int) (p : Nat) (hp : p < s.length) (ho : out.length ≤ 140737488351232 - 1000) (hv : -1 ≤ v ∧ v ≤ 65536) (ho2 : (out.length + 2) * 8 ≤ 140737488355328) :
    addr_parts.l0 s (sep : Int) (base : Int) (limit : Int) (k + 1) (out ++ [v]) p =
      if (dec s p).1 = sep then addr_parts.l0 s (sep : Int) (base : Int) (limit : Int) k ((out ++ [v]) ++ [-1]) (p + (dec s p).2)
      else match digV (dec s p).1 base with
        | none => some (.inl ([], false))
        | some d => if (limit : Int) ≤ nextN v base d ∨ v = 0 then some (.inl ([], false)) else addr_parts.l0 s (sep : Int) (base : Int) (limit : Int) k (out ++ [nextN v base d]) (p + (dec s p).2) := by
  have hc := dec_le s p
  have e1 : IntKind.i64.wrap (((out ++ [v]).length : Int) - 1) = ((out.length : Nat) : Int) := by
    rw [w64 _ (by simp; omega)]; simp
  have e2 : ((out ++ [v]).length : Int) = (out.length : Int) + 1 := by simp
  rw [addr_parts.l0, if_pos hp]
  by_cases h1 : (dec s p).1 = sep
  · rw [if_pos (by simpa using congrArg Nat.cast h1), if_pos h1, if_pos (by simp; omega)]
  · rw [if_neg (by simp; omega), if_neg h1, value_ok _ _ hc hb, Option.bind_some]
    simp only [e1, last_rd]
    rw [if_pos (by rw [e2]; omega)]
    cases hd : digV (dec s p).1 base with
    | none => simp
    | some d =>
      have hdb : d < base := by
        unfold digV at hd
        (repeat' split at hd) <;> simp at hd <;> omega
      have hm : (if (0 : Int) > v then (0 : Int) else v) = (if v < 0 then 0 else v) := rfl
      have hn : 0 ≤ nextN v base d ∧ nextN v base d ≤ 2000000 := by
        unfold nextN
        have hbz : (0 : Int) ≤ base ∧ (base : Int) ≤ 16 := by omega
        split
        · omega
        · have q1 : 0 ≤ v * (base : Int) := Int.mul_nonneg (by omega) hbz.1
          have q2 : v * (base : Int) ≤ v * 16 := Int.mul_le_mul_of_nonneg_left hbz.2 (by omega)
          omega
      have hmm : 0 ≤ (if v < 0 then (0 : Int) else v) * base ∧ (if v < 0 then (0 : Int) else v) * base ≤ 2000000 := by
        unfold nextN at hn
        have : (0 : Int) ≤ (if v < 0 then (0 : Int) else v) * base := Int.mul_nonneg (by split <;> omega) (by omega)
        omega
      have ew : IntKind.i64.wrap (IntKind.i64.wrap ((if (0 : Int) > v then (0 : Int) else v) * (base : Int)) + (d : Int)) = nextN v base d := by
        rw [hm, w64 ((if v < 0 then (0 : Int) else v) * (base : Int)) (by omega), w64 _ (by unfold nextN at hn; omega)]; rfl
      simp only [Bool.not_true, Bool.false_eq_true, if_false, ew]
      by_cases h2 : (limit : Int) ≤ nextN v base d
      · rw [if_pos (by simpa using h2), Option.bind_some, if_pos rfl, if_pos (.inl h2)]
      · rw [if_neg (by simpa using h2), if_pos (by rw [e2]; omega), Option.bind_some]
        by_cases h3 : v = 0
        · rw [if_pos (by simpa using h3), if_pos (.inr h3)]
        · rw [if_neg (by simpa using h3)]
          rw [if_pos (by rw [e2]; omega), Int.toNat_natCast, last_set, if_neg (show ¬ ((limit : Int) ≤ nextN v base d ∨ v = 0) from fun hh => hh.elim h2 h3)]
def dgt (d : Nat) : UInt8 := UInt8.ofNat (if d < 10 then 48 + d else 87 + d)
def numD (base u : Nat) : List UInt8 := if h : u < base ∨ base < 2 then [dgt u] else numD base (u / base) ++ [dgt (u % base)]
termination_by u
decreasing_by exact Nat.div_lt_self (by omega) (by omega)
theorem numD_small {base u : Nat} (h : u < base) : numD base u = [dgt u] := by rw [numD, dif_pos (.inl h)]
theorem numD_big {base u : Nat} (h : base ≤ u) (hb : 2 ≤ base) : numD base u = numD base (u / base) ++ [dgt (u % base)] := by rw [numD, dif_neg (by omega)]
theorem numD_dec : ∀ u : Nat, Lib.decDigits u = numD 10 u := by
  intro u
  induction u using Nat.strongRecOn with
  | ind u ih =>
    rw [Lib.decDigits]
    split
    · rename_i h
      rw [numD_small h]; unfold dgt; rw [if_pos h]
    · rename_i h
      rw [numD_big (by omega) (by decide), ih (u / 10) (by omega)]
      unfold dgt
      rw [if_pos (Nat.mod_lt _ (by decide))]
theorem dgt_toNat {d : Nat} (h : d < 16) : (dgt d).toNat = if d < 10 then 48 + d else 87 + d := by
  unfold dgt
  rw [UInt8.toNat_ofNat']
  split <;> omega
theorem digV_dgt {d base : Nat} (h : d < base) (hb : base ≤ 16) : digV (dgt d).toNat base = some d := by
  rw [dgt_toNat (by omega)]
  unfold digV
  by_cases h1 : d < 10
  · rw [if_pos h1, if_pos (by omega), if_pos (by omega)]; congr 1; omega
  · rw [if_neg h1, if_neg (by omega), if_pos (by omega), if_pos (by omega)]; congr 1; omega
theorem numD_len {base : Nat} (hb : 2 ≤ base) : ∀ u, 1 ≤ (numD base u).length := by
  intro u
  rw [numD]
  split <;> simp
theorem parts_num (s : List UInt8) (sep base limit : Nat) (hb2 : 2 ≤ base) (hb : base ≤ 16) (hl : limit ≤ 65536) (hsep : sep < 48 ∨ sep = 58 ∨ 102 < sep) (out : List Int) (ho : out.length ≤ 1000000) :
    ∀ (u k p : Nat) (rest : List UInt8), s.drop p = numD base u ++ rest → u < limit →
      addr_parts.l0 s (sep : Int) (base : Int) (limit : Int) (k + (numD base u).length) (out ++ [-1]) p = addr_parts.l0 s (sep : Int) (base : Int) (limit : Int) k (out ++ [(u : Int)]) (p + (numD base u).length) := by
  have one : ∀ (v : Int) (d k p : Nat) (rest : List UInt8), -1 ≤ v → v ≤ 65536 → v ≠ 0 → d < base → s.drop p = dgt d :: rest → nextN v base d < limit →
      addr_parts.l0 s (sep : Int) (base : Int) (limit : Int) (k + 1) (out ++ [v]) p = addr_parts.l0 s (sep : Int) (base : Int) (limit : Int) k (out ++ [nextN v base d]) (p + 1) := by
    intro v d k p rest h1 h2 h3 h4 h5 h6
    have hp : p < s.length := by
      have := congrArg List.length h5
      rw [List.length_drop, List.length_cons] at this
      omega
    have hc : s[p] = dgt d := by
      have := congrArg (fun l => l[0]?) h5
      simp only [List.getElem?_drop, Nat.add_zero, List.getElem?_cons_zero] at this
      rw [List.getElem?_eq_getElem hp] at this
      exact Option.some.inj this
    have hdn := dgt_toNat (d := d) (by omega)
    have hdec : dec s p = ((dgt d).toNat, 1) := by
      rw [dec_ascii s p hp (by rw [hc, hdn]; split <;> omega), hc]
    rw [parts_step s sep base limit hb hl k out v p hp (by omega) ⟨h1, h2⟩ (by omega), hdec, if_neg (by simp only; rw [hdn]; split <;> omega)]
    simp only [digV_dgt h4 hb]
    rw [if_neg (by omega)]
  intro u
  induction u using Nat.strongRecOn with
  | ind u ih =>
    intro k p rest hs hu
    by_cases hsm : u < base
    · rw [numD_small hsm] at hs ⊢
      have := one (-1) u k p rest (by omega) (by omega) (by omega) hsm hs (by unfold nextN; simp; omega)
      rw [show nextN (-1) base u = (u : Int) by unfold nextN; simp] at this
      exact this
    · have hq : u / base < u := Nat.div_lt_self (by omega) (by omega)
      have hbig := numD_big (base := base) (u := u) (by omega) hb2
      rw [hbig] at hs ⊢
      rw [List.append_assoc] at hs
      have i1 := ih (u / base) hq (k + 1) p ([dgt (u % base)] ++ rest) hs (by omega)
      rw [List.length_append, List.length_singleton, show k + ((numD base (u / base)).length + 1) = (k + 1) + (numD base (u / base)).length by omega, i1]
      have hmul := Nat.div_add_mod u base
      have hpos : 1 ≤ u / base := (Nat.one_le_div_iff (by omega)).2 (by omega)
      have en : nextN ((u / base : Nat) : Int) base (u % base) = (u : Int) := by
        unfold nextN
        rw [if_neg (by omega)]
        have : u / base * base + u % base = u := by rw [Nat.mul_comm]; exact hmul
        exact_mod_cast this
      have := one ((u / base : Nat) : Int) (u % base) k (p + (numD base (u / base)).length) rest (by omega) (by omega) (by omega) (Nat.mod_lt _ (by omega)) (by
        have := congrArg (List.drop (numD base (u / base)).length) hs
        rw [List.drop_drop, List.drop_left] at this
        exact this) (by rw [en]; omega)
      rw [this, en, Nat.add_assoc]
def txtL (base : Nat) (sep : UInt8) : List Nat → List UInt8
  | [] => []
  | [u] => numD base u
  | u :: v :: us => numD base u ++ sep :: txtL base sep (v :: us)
theorem parts_list (s : List UInt8) (sep : UInt8) (base limit : Nat) (hb2 : 2 ≤ base) (hb : base ≤ 16) (hl : limit ≤ 65536) (hsep : sep.toNat < 48 ∨ sep.toNat = 58) :
    ∀ (us : List Nat) (out : List Int) (k p : Nat), us ≠ [] → out.length + us.length ≤ 1000000 → s.drop p = txtL base sep us → (∀ u ∈ us, u < limit) →
      addr_parts.l0 s (sep.toNat : Int) (base : Int) (limit : Int) (k + (txtL base sep us).length + 1) (out ++ [-1]) p = some (.inr (out ++ us.map (fun u : Nat => (u : Int)), p + (txtL base sep us).length))
  | [], _, _, _, h, _, _, _ => absurd rfl h
  | [u], out, k, p, _, ho, hs, hlt => by
    have h1 := parts_num s sep.toNat base limit hb2 hb hl (by omega) out (by simp at ho; omega) u (k + 1) p [] (by rw [hs, List.append_nil]; rfl) (hlt u (by simp))
    have hlen : p + (numD base u).length = s.length := by
      have := congrArg List.length hs
      have h2 := numD_len hb2 u
      rw [List.length_drop] at this
      simp only [txtL] at this
      omega
    simp only [txtL]
    rw [show k + (numD base u).length + 1 = (k + 1) + (numD base u).length by omega, h1, addr_parts.l0, if_neg (by omega)]
    rfl
  | u :: v :: us, out, k, p, _, ho, hs, hlt => by
    simp only [List.length_cons] at ho
    have e : txtL base sep (u :: v :: us) = numD base u ++ sep :: txtL base sep (v :: us) := rfl
    rw [e] at hs ⊢
    have h1 := parts_num s sep.toNat base limit hb2 hb hl (by omega) out (by omega) u (k + (txtL base sep (v :: us)).length + 1 + 1) p (sep :: txtL base sep (v :: us)) hs (hlt u (by simp))
    have hs2 : s.drop (p + (numD base u).length) = sep :: txtL base sep (v :: us) := by
      have := congrArg (List.drop (numD base u).length) hs
      rw [List.drop_drop, List.drop_left] at this
      exact this
    have hp : p + (numD base u).length < s.length := by
      have := congrArg List.length hs2
      rw [List.length_drop, List.length_cons] at this
      omega
    have hc : s[p + (numD base u).length] = sep := by
      have := congrArg (fun l => l[0]?) hs2
      simp only [List.getElem?_drop, Nat.add_zero, List.getElem?_cons_zero] at this
      rw [List.getElem?_eq_getElem hp] at this
      exact Option.some.inj this
    have hdec : dec s (p + (numD base u).length) = (sep.toNat, 1) := by
      rw [dec_ascii s _ hp (by rw [hc]; omega), hc]
    have hu := hlt u (by simp)
    have h2 := parts_step s sep.toNat base limit hb hl (k + (txtL base sep (v :: us)).length + 1) out (u : Int) _ hp (by omega) (by omega) (by omega)
    rw [hdec, if_pos rfl] at h2
    have h3 := parts_list s sep base limit hb2 hb hl hsep (v :: us) (out ++ [(u : Int)]) k (p + (numD base u).length + 1) (by simp) (by simp; omega) (by
      have := congrArg (List.drop 1) hs2
      rw [List.drop_drop] at this
      exact this) (fun x hx => hlt x (by simp at hx ⊢; right; exact hx))
    rw [List.length_append, List.length_cons, show k + ((numD base u).length + ((txtL base sep (v :: us)).length + 1)) + 1 = (k + (txtL base sep (v :: us)).length + 1 + 1) + (numD base u).length by omega, h1, h2]
    simp only
    rw [h3]
    simp only [List.map_cons, List.append_assoc, List.cons_append, List.nil_append]
    rw [show p + (numD base u).length + 1 + (txtL base sep (v :: us)).length = p + ((numD base u).length + ((txtL base sep (v :: us)).length + 1)) by omega]
theorem parts_f (k : Nat) (sep : UInt8) (base limit : Nat) (hb2 : 2 ≤ base) (hb : base ≤ 16) (hl : limit ≤ 65536) (hsep : sep.toNat < 48 ∨ sep.toNat = 58) (us : List Nat) (hus : us ≠ []) (hu : us.length ≤ 1000000) (hlt : ∀ u ∈ us, u < limit) (hk : (txtL base sep us).length < k) :
    addr_parts.f k (txtL base sep us) (sep.toNat : Int) (base : Int) (limit : Int) = some (us.map (fun u : Nat => (u : Int)), true) := by
  unfold addr_parts.f
  have := parts_list (txtL base sep us) sep base limit hb2 hb hl hsep us [] (k - (txtL base sep us).length - 1) 0 hus (by simp; exact hu) (by simp) hlt
  rw [show k - (txtL base sep us).length - 1 + (txtL base sep us).length + 1 = k by omega] at this
  rw [show ([-1] : List Int) = [] ++ [-1] from rfl, this]
  rfl
theorem right4_B {a : S_api_Addr} (hr : rightB a = true) (h4 : a.Size = 4) (hl : a.B.length = 16) : a.B = [ar a.B 0, ar a.B 1, ar a.B 2, ar a.B 3, 0, 0, 0, 0, 0, 0, 0, 0, 0, 0, 0, 0] := by
  have hz := ((rightB_iff a).1 hr).2
  rw [h4] at hz
  have z : ∀ j, 4 ≤ j → j < 16 → ar a.B j = 0 := fun j h1 h2 => hz j (by simpa using h1) h2
  have e : arL 16 a.B = a.B := by have := arL_self a.B; rwa [hl] at this
  have e2 : arL 16 a.B = [ar a.B 0, ar a.B 1, ar a.B 2, ar a.B 3, ar a.B 4, ar a.B 5, ar a.B 6, ar a.B 7, ar a.B 8, ar a.B 9, ar a.B 10, ar a.B 11, ar a.B 12, ar a.B 13, ar a.B 14, ar a.B 15] := rfl
  rw [e] at e2
  conv => lhs; rw [e2]
  rw [z 4 (by decide) (by decide), z 5 (by decide) (by decide), z 6 (by decide) (by decide), z 7 (by decide) (by decide), z 8 (by decide) (by decide), z 9 (by decide) (by decide), z 10 (by decide) (by decide), z 11 (by decide) (by decide), z 12 (by decide) (by decide), z 13 (by decide) (by decide), z 14 (by decide) (by decide), z 15 (by decide) (by decide)]
def ns4 (l : List Int) : List Nat := [(ar l 0).toNat, (ar l 1).toNat, (ar l 2).toNat, (ar l 3).toNat]
theorem txt4_txtL (l : List Int) (hB : isB l) : txt4 l = txtL 10 46 (ns4 l) := by
  rw [txt4_eq, itoa_nat _ (ar_isB hB 0).1, itoa_nat _ (ar_isB hB 1).1, itoa_nat _ (ar_isB hB 2).1, itoa_nat _ (ar_isB hB 3).1, numD_dec, numD_dec, numD_dec, numD_dec]
  rfl
theorem txt4_len (l : List Int) (hB : isB l) : (txt4 l).length ≤ 1040 := by
  have len : ∀ i, (Lib.itoa (ar l i)).length ≤ 256 := fun i => by
    have := ar_isB hB i
    rw [itoa_nat _ this.1]
    have := dec_len (ar l i).toNat
    omega
  have l0 := len 0; have l1 := len 1; have l2 := len 2; have l3 := len 3
  rw [txt4_eq]
  simp only [List.length_append, List.length_cons]
  omega
theorem u8w (n : Int) (h : 0 ≤ n ∧ n ≤ 255) : IntKind.u8.wrap n = n := by rw [IntKind.wrap_u8]; omega
theorem read4_go (x0 x1 x2 x3 : Int) (h0 : 0 ≤ x0 ∧ x0 ≤ 255) (h1 : 0 ≤ x1 ∧ x1 ≤ 255) (h2 : 0 ≤ x2 ∧ x2 ≤ 255) (h3 : 0 ≤ x3 ∧ x3 ≤ 255) (k : Nat) :
    addr_read4.l0 ([x0, x1, x2, x3], true) (k + 5) 0 (List.replicate 16 (0 : Int)) = some (.inr [x0, x1, x2, x3, 0, 0, 0, 0, 0, 0, 0, 0, 0, 0, 0, 0]) := by
  have r0 : rd [x0, x1, x2, x3] 0 = x0 := rfl
  have r1 : rd [x0, x1, x2, x3] 1 = x1 := rfl
  have r2 : rd [x0, x1, x2, x3] 2 = x2 := rfl
  have r3 : rd [x0, x1, x2, x3] 3 = x3 := rfl
  have w1 : IntKind.i64.wrap (0 + 1) = 1 := by decide
  have w2 : IntKind.i64.wrap (1 + 1) = 2 := by decide
  have w3 : IntKind.i64.wrap (2 + 1) = 3 := by decide
  have w4 : IntKind.i64.wrap (3 + 1) = 4 := by decide
  rw [addr_read4.l0, if_pos (by simp), if_pos (by simp), r0, if_neg (by simp; omega), if_pos (by decide), w1, u8w _ h0,
    addr_read4.l0, if_pos (by simp), if_pos (by simp), r1, if_neg (by simp; omega), if_pos (by decide), w2, u8w _ h1,
    addr_read4.l0, if_pos (by simp), if_pos (by simp), r2, if_neg (by simp; omega), if_pos (by decide), w3, u8w _ h2,
    addr_read4.l0, if_pos (by simp), if_pos (by simp), r3, if_neg (by simp; omega), if_pos (by decide), w4, u8w _ h3,
    addr_read4.l0, if_neg (by simp)]
  rfl
theorem read4_ok (k : Nat) (a : S_api_Addr) (hr : rightB a = true) (h4 : a.Size = 4) (hB : isB a.B) (hl : a.B.length = 16) : addr_read4.f (k + 1100) (txt4 a.B) = some (a, true) := by
  have hlen := txt4_len a.B hB
  have b0 := ar_isB hB 0; have b1 := ar_isB hB 1; have b2 := ar_isB hB 2; have b3 := ar_isB hB 3
  unfold addr_read4.f
  rw [txt4_txtL _ hB] at hlen ⊢
  have hp := parts_f (k + 1100) 46 10 256 (by decide) (by decide) (by decide) (by decide) (ns4 a.B) (by simp [ns4]) (by simp [ns4]) (by simp [ns4]; omega) (by omega)
  have e46 : (((46 : UInt8).toNat : Nat) : Int) = 46 := rfl
  rw [e46] at hp
  have em : (ns4 a.B).map (fun u : Nat => (u : Int)) = [ar a.B 0, ar a.B 1, ar a.B 2, ar a.B 3] := by
    simp [ns4]; omega
  rw [em] at hp
  rw [show (10 : Int) = ((10 : Nat) : Int) from rfl, show (256 : Int) = ((256 : Nat) : Int) from rfl, hp, Option.bind_some, if_neg (by simp), show k + 1100 = (k + 1095) + 5 by omega, read4_go _ _ _ _ b0 b1 b2 b3, Option.bind_some]
  simp only
  rw [← right4_B hr h4 hl, ← h4]
theorem txt4_ne (l : List Int) (hB : isB l) : txt4 l ≠ [] := by
  rw [txt4_eq]
  intro h
  have := congrArg List.length h
  simp at this
theorem parse4_ok (k : Nat) (a : S_api_Addr) (hr : rightB a = true) (h4 : a.Size = 4) (hB : isB a.B) (hl : a.B.length = 16) : addr_Parse.f (k + 1100) (txt4 a.B) = some (a, 0) := by
  unfold addr_Parse.f
  rw [bstr_toList, bstr_toList, if_neg (by simpa using txt4_ne a.B hB), read4_ok k a hr h4 hB hl, Option.bind_some]
  simp only [Bool.not_true, Bool.false_eq_true, if_false, Option.bind_some]
  have := text4_ok (k + 1080) a hr h4 hB
  rw [show k + 1080 + 20 = k + 1100 by omega] at this
  rw [this, Option.bind_some, Option.bind_some, bstr_toList]
  simp
/-! texts that are cut -/
def spl (c : UInt8) : List UInt8 → List (List UInt8)
  | [] => [[]]
  | x :: s => if x = c then [] :: spl c s else match spl c s with
    | [] => [[x]]
    | y :: ys => (x :: y) :: ys
theorem spl_free {c : UInt8} : ∀ {a : List UInt8}, c ∉ a → spl c a = [a]
  | [], _ => rfl
  | x :: a, h => by
    rw [spl, if_neg (fun e => h (by simp [e])), spl_free (fun hh => h (by simp [hh]))]
theorem spl_app {c : UInt8} : ∀ {a : List UInt8} (s : List UInt8), c ∉ a → spl c (a ++ c :: s) = a :: spl c s
  | [], s, _ => by rw [List.nil_append, spl, if_pos rfl]
  | x :: a, s, h => by
    rw [List.cons_append, spl, if_neg (fun e => h (by simp [e])), spl_app s (fun hh => h (by simp [hh]))]
theorem spl_pos (c : UInt8) (s : List UInt8) : ∃ y ys, spl c s = y :: ys := by
  cases s with
  | nil => exact ⟨_, _, rfl⟩
  | cons x s =>
    rw [spl]
    split
    · exact ⟨_, _, rfl⟩
    · split <;> exact ⟨_, _, rfl⟩
theorem index_free {c : UInt8} : ∀ {a : List UInt8}, c ∉ a → Lib.index a [c] = -1
  | [], _ => rfl
  | x :: a, h => by
    have h1 : ([c].isPrefixOf (x :: a)) = false := by
      simp [List.isPrefixOf]; exact fun e => h (by simp [e])
    unfold Lib.index
    rw [h1, index_free (fun hh => h (by simp [hh]))]; rfl
theorem index_app {c : UInt8} : ∀ {a : List UInt8} (s : List UInt8), c ∉ a → Lib.index (a ++ c :: s) [c] = a.length
  | [], s, _ => by
    unfold Lib.index; simp [List.isPrefixOf]
  | x :: a, s, h => by
    have h1 : ([c].isPrefixOf (x :: (a ++ c :: s))) = false := by
      simp [List.isPrefixOf]; exact fun e => h (by simp [e])
    rw [List.cons_append]
    unfold Lib.index
    rw [h1, index_app s (fun hh => h (by simp [hh]))]
    have : (((a.length : Nat) : Int) == -1) = false := by rw [beq_eq_false_iff_ne]; omega
    simp [this]
theorem cut_free {c : UInt8} {a : List UInt8} (h : c ∉ a) : Lib.cut a [c] = (a, [], false) := by
  unfold Lib.cut; rw [index_free h, if_neg (by decide)]
theorem cut_app {c : UInt8} {a : List UInt8} (s : List UInt8) (h : c ∉ a) : Lib.cut (a ++ c :: s) [c] = (a, s, true) := by
  unfold Lib.cut; rw [index_app s h, if_pos (by omega)]
  simp
theorem first_of (c : UInt8) : ∀ (s : List UInt8), c ∉ s ∨ ∃ a b, s = a ++ c :: b ∧ c ∉ a
  | [] => .inl (by simp)
  | x :: s => by
    by_cases e : x = c
    · exact .inr ⟨[], s, by simp [e], by simp⟩
    · rcases first_of c s with h | ⟨a, b, h1, h2⟩
      · exact .inl (by simp [h]; exact fun hh => e hh.symm)
      · exact .inr ⟨x :: a, b, by simp [h1], by simp [h2]; exact fun hh => e hh.symm⟩
/-- no two colons one behind the other, and none at the end -/
def noDbl : List UInt8 → Bool
  | [] => true
  | [x] => x != 58
  | x :: y :: r => !(x == 58 && y == 58) && noDbl (y :: r)
theorem dbl_index : ∀ (a s : List UInt8), noDbl a = true → Lib.index (a ++ 58 :: 58 :: s) [58, 58] = a.length
  | [], s, _ => by unfold Lib.index; simp [List.isPrefixOf]
  | [x], s, h => by
    have hx : x ≠ 58 := by simpa [noDbl] using h
    have h1 : ([58, 58].isPrefixOf (x :: 58 :: 58 :: s)) = false := by
      simp [List.isPrefixOf]; exact fun e => absurd e.symm hx
    have h2 := dbl_index [] s rfl
    rw [List.nil_append] at h2
    rw [List.cons_append, List.nil_append]
    unfold Lib.index
    rw [h1, h2]; rfl
  | x :: y :: r, s, h => by
    have hh : ¬ (x = 58 ∧ y = 58) ∧ noDbl (y :: r) = true := by
      rw [noDbl, Bool.and_eq_true] at h
      exact ⟨fun e => by simp [e.1, e.2] at h, h.2⟩
    have h1 : ([58, 58].isPrefixOf (x :: y :: (r ++ 58 :: 58 :: s))) = false := by
      simp [List.isPrefixOf]; exact fun e e2 => hh.1 ⟨e.symm, e2.symm⟩
    have h2 := dbl_index (y :: r) s hh.2
    rw [List.cons_append] at h2
    rw [List.cons_append, List.cons_append]
    unfold Lib.index
    rw [h1, h2]
    have : ((((y :: r).length : Nat) : Int) == -1) = false := by rw [beq_eq_false_iff_ne]; simp only [List.length_cons]; omega
    simp only [this]; rfl
theorem dbl_none : ∀ (a : List UInt8), noDbl a = true → Lib.index a [58, 58] = -1
  | [], _ => rfl
  | [x], h => by
    unfold Lib.index; simp [List.isPrefixOf, Lib.index]
  | x :: y :: r, h => by
    have hh : ¬ (x = 58 ∧ y = 58) ∧ noDbl (y :: r) = true := by
      rw [noDbl, Bool.and_eq_true] at h
      exact ⟨fun e => by simp [e.1, e.2] at h, h.2⟩
    have h1 : ([58, 58].isPrefixOf (x :: y :: r)) = false := by
      simp [List.isPrefixOf]; exact fun e e2 => hh.1 ⟨e.symm, e2.symm⟩
    unfold Lib.index
    rw [h1, dbl_none (y :: r) hh.2]; rfl
theorem dbl_cut (a s : List UInt8) (h : noDbl a = true) : Lib.cut (a ++ 58 :: 58 :: s) [58, 58] = (a, s, true) := by
  unfold Lib.cut; rw [dbl_index a s h, if_pos (by omega)]
  simp
theorem dbl_cut_none (a : List UInt8) (h : noDbl a = true) : Lib.cut a [58, 58] = (a, [], false) := by
  unfold Lib.cut; rw [dbl_none a h, if_neg (by decide)]
theorem noDbl_free : ∀ {a : List UInt8}, (58 : UInt8) ∉ a → noDbl a = true
  | [], _ => rfl
  | [x], h => by simp [noDbl]; exact fun e => h (by simp [e])
  | x :: y :: r, h => by
    have := noDbl_free (a := y :: r) (fun hh => h (by simp at hh ⊢; right; exact hh))
    have hx : x ≠ 58 := fun e => h (by simp [e])
    rw [noDbl, this]; simp [hx]
theorem noDbl_app : ∀ (a b : List UInt8), a ≠ [] → (58 : UInt8) ∉ a → b ≠ [] → b.head? ≠ some 58 → noDbl b = true → noDbl (a ++ 58 :: b) = true
  | [], _, h, _, _, _, _ => absurd rfl h
  | [x], b, _, hx, hb, h0, h => by
    obtain ⟨y, ys, rfl⟩ := List.exists_cons_of_ne_nil hb
    have h1 : y ≠ 58 := by simpa using h0
    have h2 : x ≠ 58 := fun e => hx (by simp [e])
    simp [noDbl, h1, h2, h]
  | x :: y :: r, b, _, hx, hb, h0, h => by
    have h2 : x ≠ 58 := fun e => hx (by simp [e])
    have := noDbl_app (y :: r) b (by simp) (fun hh => hx (by simp at hh ⊢; right; exact hh)) hb h0 h
    rw [List.cons_append] at this ⊢
    rw [List.cons_append]
    simp [noDbl, h2]
    simpa using this
end Go.E
namespace Go.E
/-! an address of sixteen bytes as a text -/
theorem or_step (x c : Int) (hx : 0 ≤ x) (hx2 : x < 72057594037927936) (hc : 0 ≤ c) (hc2 : c ≤ 255) :
    IntKind.i64.wrap (BitVec.ofInt IntKind.i64.bits (IntKind.i64.wrap (x * 2 ^ (min (8 : Int).toNat IntKind.i64.bits))) ||| BitVec.ofInt IntKind.i64.bits (IntKind.i64.wrap c)).toNat = IntKind.i64.wrap (x * 256 + c) := by
  obtain ⟨a, rfl⟩ := Int.eq_ofNat_of_zero_le hx
  obtain ⟨d, rfl⟩ := Int.eq_ofNat_of_zero_le hc
  congr 1
  have e1 : (BitVec.ofInt IntKind.i64.bits (IntKind.i64.wrap ((a : Int) * 2 ^ (min (8 : Int).toNat IntKind.i64.bits)))).toNat = 2 ^ 8 * a := by
    have : ((a : Int) * 2 ^ (min (8 : Int).toNat IntKind.i64.bits)) = (a : Int) * 256 := rfl
    rw [this, IntKind.wrap_i64, BitVec.toNat_ofInt]
    show (_ % ((2 ^ 64 : Nat) : Int)).toNat = _
    omega
  have e2 : (BitVec.ofInt IntKind.i64.bits (IntKind.i64.wrap (d : Int))).toNat = d := by
    rw [IntKind.wrap_i64, BitVec.toNat_ofInt]
    show (_ % ((2 ^ 64 : Nat) : Int)).toNat = _
    omega
  rw [BitVec.toNat_or, e1, e2, ← Nat.two_pow_add_eq_or_of_lt (by omega : d < 2 ^ 8)]
  omega
theorem or16 (x y : Int) (hx : 0 ≤ x ∧ x ≤ 255) (hy : 0 ≤ y ∧ y ≤ 255) : IntKind.i64.wrap (BitVec.ofInt IntKind.i64.bits (IntKind.i64.wrap ((IntKind.i64.wrap x) * 2 ^ (min (8 : Int).toNat IntKind.i64.bits))) ||| BitVec.ofInt IntKind.i64.bits (IntKind.i64.wrap y)).toNat = x * 256 + y := by
  rw [w64 x (by omega), or_step x y hx.1 (by omega) hy.1 hy.2, w64 _ (by omega)]
def n16 (l : List Int) (i : Nat) : Int := ar l (2 * i) * 256 + ar l (2 * i + 1)
def nums (l : List Int) : List Int := [n16 l 0, n16 l 1, n16 l 2, n16 l 3, n16 l 4, n16 l 5, n16 l 6, n16 l 7]
theorem n16_lt {l : List Int} (h : isB l) (i : Nat) : 0 ≤ n16 l i ∧ n16 l i < 65536 := by
  have h1 := ar_isB h (2 * i); have h2 := ar_isB h (2 * i + 1)
  unfold n16; omega
theorem numbers_step (a : S_api_Addr) (hB : isB a.B) (k i : Nat) (hi : i < 8) (x : List Int) : addr_numbers.l0 a (k + 1) (i : Int) x = addr_numbers.l0 a k ((i + 1 : Nat) : Int) ((arL 8 x).set i (n16 a.B i)) := by
  have e1 : IntKind.i64.wrap (2 * (i : Int)) = ((2 * i : Nat) : Int) := by rw [w64 _ (by omega)]; omega
  have e2 : IntKind.i64.wrap (((2 * i : Nat) : Int) + 1) = ((2 * i + 1 : Nat) : Int) := by rw [w64 _ (by omega)]; omega
  have e3 : IntKind.i64.wrap ((i : Int) + 1) = ((i + 1 : Nat) : Int) := by rw [w64 _ (by omega)]; omega
  rw [addr_numbers.l0, if_pos (by simp; omega), e1, e2, e3, if_pos (by omega), if_pos (by omega), if_pos (by omega), Int.toNat_natCast, Int.toNat_natCast, Int.toNat_natCast, or16 _ _ (ar_isB hB _) (ar_isB hB _)]
  rfl
theorem numbers_ok (k : Nat) (a : S_api_Addr) (hB : isB a.B) : addr_numbers.f (k + 20) a = some (nums a.B) := by
  unfold addr_numbers.f
  have s := fun k i hi x => numbers_step a hB k i hi x
  have s0 := s (k + 19) 0 (by decide)
  rw [show ((0 : Nat) : Int) = 0 from rfl] at s0
  rw [s0, s (k + 18) 1 (by decide), s (k + 17) 2 (by decide), s (k + 16) 3 (by decide), s (k + 15) 4 (by decide), s (k + 14) 5 (by decide), s (k + 13) 6 (by decide), s (k + 12) 7 (by decide), addr_numbers.l0, if_neg (by decide)]
  rfl
/-- how many zeros there are from a place on -/
def zr (ns : List Int) : Nat → Nat → Nat
  | 0, _ => 0
  | m + 1, p => if ar ns p = 0 then zr ns m (p + 1) + 1 else 0
theorem zr_le (ns : List Int) : ∀ m p, zr ns m p ≤ m
  | 0, _ => Nat.le_refl _
  | m + 1, p => by
    rw [zr]; split
    · have := zr_le ns m (p + 1); omega
    · omega
theorem zr_zero (ns : List Int) : ∀ m p j, j < zr ns m p → ar ns (p + j) = 0
  | 0, _, _, h => absurd h (Nat.not_lt_zero _)
  | m + 1, p, j, h => by
    rw [zr] at h; split at h
    · cases j with
      | zero => assumption
      | succ j => have := zr_zero ns m (p + 1) j (by omega); rwa [show p + 1 + j = p + (j + 1) by omega] at this
    · omega
theorem gap_l1 (ns : List Int) (i : Nat) : ∀ m n k, i + n + m = 8 → m < k → addr_gap.l1 ns (i : Int) k (n : Int) = some ((n + zr ns m (i + n) : Nat) : Int)
  | 0, n, k, h, hk => by
    obtain ⟨k, rfl⟩ : ∃ k', k = k' + 1 := ⟨k - 1, by omega⟩
    have e1 : IntKind.i64.wrap ((i : Int) + n) = 8 := by rw [w64 _ (by omega)]; omega
    rw [addr_gap.l1, e1, if_neg (by decide), Option.bind_some, if_neg (by decide)]; rfl
  | m + 1, n, k, h, hk => by
    obtain ⟨k, rfl⟩ : ∃ k', k = k' + 1 := ⟨k - 1, by omega⟩
    have e1 : IntKind.i64.wrap ((i : Int) + n) = ((i + n : Nat) : Int) := by rw [w64 _ (by omega)]; omega
    have e3 : IntKind.i64.wrap ((n : Int) + 1) = ((n + 1 : Nat) : Int) := by rw [w64 _ (by omega)]; omega
    rw [addr_gap.l1, e1, e3, if_pos (by simp; omega), if_pos (by omega), Option.bind_some, Int.toNat_natCast, zr]
    by_cases h0 : ar ns (i + n) = 0
    · rw [if_pos (by simpa using h0), if_pos h0, gap_l1 ns i m (n + 1) k (by omega) (by omega)]
      rw [show i + (n + 1) = i + n + 1 by omega]
      congr 1; omega
    · rw [if_neg (by simpa using h0), if_neg h0]; rfl
def gapGo (ns : List Int) : Nat → Nat → Nat × Nat → Nat × Nat
  | 0, _, g => g
  | m + 1, i, g => gapGo ns m (i + 1) (if g.2 < zr ns (8 - i) i then (i, zr ns (8 - i) i) else g)
def gapOf (ns : List Int) : Nat × Nat := gapGo ns 8 0 (0, 0)
theorem gap_l0 (K : Nat) (hK : 9 ≤ K) (ns : List Int) : ∀ (m i k : Nat) (g : Nat × Nat), i + m = 8 → m < k → addr_gap.l0 K ns k (g.1 : Int) (g.2 : Int) (i : Int) = some (((gapGo ns m i g).1 : Int), ((gapGo ns m i g).2 : Int))
  | 0, i, k, g, h, hk => by
    obtain ⟨k, rfl⟩ : ∃ k', k = k' + 1 := ⟨k - 1, by omega⟩
    rw [addr_gap.l0, if_neg (by simp; omega)]; rfl
  | m + 1, i, k, g, h, hk => by
    obtain ⟨k, rfl⟩ : ∃ k', k = k' + 1 := ⟨k - 1, by omega⟩
    have e3 : IntKind.i64.wrap ((i : Int) + 1) = ((i + 1 : Nat) : Int) := by rw [w64 _ (by omega)]; omega
    have h1 := gap_l1 ns i (8 - i) 0 K (by omega) (by omega)
    rw [Nat.add_zero, Nat.zero_add, show ((0 : Nat) : Int) = 0 from rfl] at h1
    rw [addr_gap.l0, if_pos (by simp; omega), h1, Option.bind_some, e3, gapGo]
    by_cases hg : g.2 < zr ns (8 - i) i
    · rw [if_pos (by simpa using hg), if_pos hg]
      exact gap_l0 K hK ns m (i + 1) k (i, zr ns (8 - i) i) (by omega) (by omega)
    · rw [if_neg (by simpa using hg), if_neg hg]
      exact gap_l0 K hK ns m (i + 1) k g (by omega) (by omega)
theorem gap_ok (k : Nat) (ns : List Int) : addr_gap.f (k + 20) ns = some (((gapOf ns).1 : Int), ((gapOf ns).2 : Int)) := by
  unfold addr_gap.f
  have := gap_l0 (k + 20) (by omega) ns 8 0 (k + 20) (0, 0) rfl (by omega)
  simp only [show ((0 : Nat) : Int) = 0 from rfl] at this
  rw [this]; rfl
theorem gapGo_ok (ns : List Int) : ∀ m i (g : Nat × Nat), i + m = 8 → (g.1 + g.2 ≤ 8 ∧ ∀ j, j < g.2 → ar ns (g.1 + j) = 0) → ((gapGo ns m i g).1 + (gapGo ns m i g).2 ≤ 8 ∧ ∀ j, j < (gapGo ns m i g).2 → ar ns ((gapGo ns m i g).1 + j) = 0)
  | 0, _, _, _, h => h
  | m + 1, i, g, hi, h => by
    rw [gapGo]
    refine gapGo_ok ns m (i + 1) _ (by omega) ?_
    split
    · have := zr_le ns (8 - i) i
      exact ⟨by simp only; omega, zr_zero ns (8 - i) i⟩
    · exact h
theorem gapOf_ok (ns : List Int) : (gapOf ns).1 + (gapOf ns).2 ≤ 8 ∧ ∀ j, j < (gapOf ns).2 → ar ns ((gapOf ns).1 + j) = 0 := gapGo_ok ns 8 0 (0, 0) rfl ⟨by decide, fun j h => absurd h (Nat.not_lt_zero _)⟩
/-- numbers in base 16, as the library writes them -/
theorem digs : ∀ d : Fin 16, ([48, 49, 50, 51, 52, 53, 54, 55, 56, 57, 97, 98, 99, 100, 101, 102, 103, 104, 105, 106, 107, 108, 109, 110, 111, 112, 113, 114, 115, 116, 117, 118, 119, 120, 121, 122] : List UInt8).getD d.val 0 = dgt d.val := by decide
theorem and15 (u : Nat) (hu : u < 65536) : IntKind.u64.wrap (BitVec.ofInt IntKind.u64.bits (u : Int) &&& BitVec.ofInt IntKind.u64.bits (IntKind.u64.wrap ((IntKind.u64.wrap 16) - (1 : Int)))).toNat = ((u % 16 : Nat) : Int) := by
  rw [BitVec.toNat_and, BitVec.toNat_ofInt, BitVec.toNat_ofInt]
  have e : IntKind.u64.bits = 64 := rfl
  have h1 : ((u : Int) % ((2 ^ 64 : Nat) : Int)).toNat = u := by omega
  have h2 : (IntKind.u64.wrap ((IntKind.u64.wrap 16) - (1 : Int)) % ((2 ^ 64 : Nat) : Int)).toNat = 2 ^ 4 - 1 := by decide
  rw [e, h1, h2, Nat.and_two_pow_sub_one_eq_mod, IntKind.wrap_u64]
  omega
theorem fb_stop (k u : Nat) (i : Int) (arr : List Int) (hu : u < 16) : strconv_formatBits.l0 16 4 (k + 1) (u : Int) i arr = some ((u : Int), i, arr) := by
  have e : IntKind.u64.wrap 16 = 16 := by decide
  rw [strconv_formatBits.l0, e, if_neg (by simp; omega)]
theorem fb_step (k u i : Nat) (arr : List Int) (hu : u < 65536) (h : 16 ≤ u) (hi : 1 ≤ i) (hi2 : i ≤ 65) :
    strconv_formatBits.l0 16 4 (k + 1) (u : Int) (i : Int) arr = strconv_formatBits.l0 16 4 k ((u / 16 : Nat) : Int) ((i - 1 : Nat) : Int) ((arL 65 arr).set (i - 1) ((dgt (u % 16)).toNat : Int)) := by
  have e : IntKind.u64.wrap 16 = 16 := by decide
  have e4 : IntKind.u64.wrap 4 = 4 := by decide
  have ei : IntKind.i64.wrap ((i : Int) - 1) = ((i - 1 : Nat) : Int) := by rw [w64 _ (by omega)]; omega
  have eu : Int.fdiv (u : Int) (2 ^ (min (Int.toNat 4) IntKind.u64.bits)) = ((u / 16 : Nat) : Int) := by
    have : ((2 : Int) ^ (min (Int.toNat 4) IntKind.u64.bits)) = 16 := rfl
    rw [this, Int.fdiv_eq_ediv_of_nonneg _ (by omega)]; omega
  have hd := digs ⟨u % 16, Nat.mod_lt _ (by decide)⟩
  simp only at hd
  rw [strconv_formatBits.l0, and15 u hu, ei, e4, eu, e, if_pos (by simp; omega), if_pos (by simp; omega), if_pos (by omega), if_pos (by omega), Int.toNat_natCast, Int.toNat_natCast, hd]
theorem set_drop (l : List Int) (i : Nat) (c : Int) (h : i < l.length) : (l.set i c).drop i = c :: l.drop (i + 1) := by
  rw [List.drop_eq_getElem_cons (by simpa using h)]
  simp [List.drop_set]
theorem arL65 {l : List Int} (h : l.length = 65) : arL 65 l = l := by have := arL_self l; rwa [h] at this
theorem ofDgt (d : Nat) : UInt8.ofNat (((dgt d).toNat : Int)).toNat = dgt d := by simp
theorem fb_all : ∀ (u k i : Nat) (arr : List Int), u < 65536 → arr.length = 65 → (numD 16 u).length ≤ i → i ≤ 65 → (numD 16 u).length ≤ k →
    ∃ (u' i' : Nat) (arr' : List Int), strconv_formatBits.l0 16 4 k (u : Int) (i : Int) arr = some ((u' : Int), (i' : Int), arr') ∧ u' < 16 ∧ 1 ≤ i' ∧ i' ≤ 65 ∧ arr'.length = 65 ∧ dgt u' :: b2s (arr'.drop i') = numD 16 u ++ b2s (arr.drop i) := by
  intro u
  induction u using Nat.strongRecOn with
  | ind u ih =>
    intro k i arr hu hl hi hi2 hk
    have h1 := numD_len (base := 16) (by decide) u
    obtain ⟨k, rfl⟩ : ∃ k', k = k' + 1 := ⟨k - 1, by omega⟩
    by_cases hs : u < 16
    · exact ⟨u, i, arr, fb_stop k u i arr hs, hs, by omega, hi2, hl, by rw [numD_small hs]; rfl⟩
    · have hb := numD_big (base := 16) (u := u) (by omega) (by decide)
      have hbl : (numD 16 u).length = (numD 16 (u / 16)).length + 1 := by rw [hb]; simp
      rw [fb_step k u i arr hu (by omega) (by omega) hi2, arL65 hl]
      obtain ⟨u', i', arr', h2, h3, h4, h5, h6, h7⟩ := ih (u / 16) (by omega) k (i - 1) (arr.set (i - 1) ((dgt (u % 16)).toNat : Int)) (by omega) (by simpa using hl) (by omega) (by omega) (by omega)
      refine ⟨u', i', arr', h2, h3, h4, h5, h6, ?_⟩
      rw [h7, set_drop _ _ _ (by omega), hb, show i - 1 + 1 = i by omega]
      simp only [b2s, List.map_cons, ofDgt, List.append_assoc, List.singleton_append]
theorem numD16_len (u : Nat) (h : u < 65536) : (numD 16 u).length ≤ 4 := by
  have n1 : ∀ v, v < 16 → (numD 16 v).length ≤ 1 := fun v hv => by rw [numD_small hv]; simp
  have step : ∀ v, (numD 16 v).length ≤ (numD 16 (v / 16)).length + 1 := fun v => by
    by_cases hv : v < 16
    · have := n1 v hv; omega
    · rw [numD_big (base := 16) (u := v) (by omega) (by decide)]; simp
  have a := step u; have b := step (u / 16); have c := step (u / 16 / 16); have d := n1 (u / 16 / 16 / 16) (by omega)
  omega
theorem hex_ok (k u : Nat) (h : u < 65536) : strconv_FormatInt_83.f (k + 80) (u : Int) 16 = some (numD 16 u) := by
  unfold strconv_FormatInt_83.f strconv_FormatInt.f strconv_formatBits.f
  have e0 : IntKind.u64.wrap (u : Int) = (u : Int) := by rw [IntKind.wrap_u64]; omega
  have p2 : strconv_isPowerOfTwo.f 16 = some true := by kernel_rfl
  have tz : bits_TrailingZeros.f (IntKind.u64.wrap 16) = some 4 := by kernel_rfl
  have hl := numD16_len u h
  obtain ⟨u', i', arr', h2, h3, h4, h5, h6, h7⟩ := fb_all u (k + 80) 65 (List.replicate 65 (0 : Int)) h (by simp) (by omega) (Nat.le_refl _) (by omega)
  have ei : IntKind.i64.wrap ((i' : Int) - 1) = ((i' - 1 : Nat) : Int) := by rw [w64 _ (by omega)]; omega
  have hd := digs ⟨u', h3⟩
  simp only at hd
  simp only [show ((65 : Nat) : Int) = 65 from rfl] at h2
  rw [if_neg (by decide), e0, if_neg (by decide), decide_eq_false (by omega : ¬ (u : Int) < 0), if_neg (by decide), Option.bind_some, p2, Option.bind_some, if_pos rfl, tz, Option.bind_some, h2, Option.bind_some]
  simp only [ei]
  rw [if_pos (by simp; omega), if_pos (by omega), Option.bind_some, if_neg (by decide), Option.bind_some, if_neg (by decide), Int.toNat_natCast, Int.toNat_natCast, hd]
  simp only [Int.toNat_natCast]
  rw [if_pos (by omega), Option.bind_some, Option.bind_some, arL65 h6, arL65 (by simpa using h6), List.take_of_length_le (by simp [h6]), set_drop _ _ _ (by omega), show i' - 1 + 1 = i' by omega]
  simp only [b2s, List.map_cons, ofDgt] at h7 ⊢
  rw [h7]
  simp
/-! written with colons -/
def hexs (ns : List Int) : List (List UInt8) := ns.map fun n => numD 16 n.toNat
def is16 (ns : List Int) : Prop := ∀ n ∈ ns, 0 ≤ n ∧ n < 65536
def wr (ns : List Int) : List UInt8 := txtL 16 58 (ns.map Int.toNat)
theorem join_txtL (base : Nat) (sep : UInt8) : ∀ us : List Nat, Lib.join (us.map (numD base)) [sep] = txtL base sep us
  | [] => rfl
  | [u] => by simp [Lib.join, List.intercalate, txtL]
  | u :: v :: us => by
    have := join_txtL base sep (v :: us)
    simp only [Lib.join, List.intercalate, List.map_cons] at this ⊢
    rw [txtL, ← this]
    simp [List.intersperse]
theorem join_wr (ns : List Int) : Lib.join (hexs ns) [58] = wr ns := by
  have := join_txtL 16 58 (ns.map Int.toNat)
  rw [List.map_map] at this
  exact this
theorem txt_len (base : Nat) (sep : UInt8) (b : Nat) : ∀ us : List Nat, (∀ u ∈ us, (numD base u).length ≤ b) → (txtL base sep us).length ≤ us.length * (b + 1)
  | [], _ => Nat.zero_le _
  | [u], h => by have := h u (by simp); simp only [txtL, List.length_singleton]; omega
  | u :: v :: us, h => by
    have h1 := h u (by simp)
    have h2 := txt_len base sep b (v :: us) (fun x hx => h x (by simp at hx ⊢; right; exact hx))
    simp only [txtL, List.length_append, List.length_cons] at h2 ⊢
    have : (us.length + 1 + 1) * (b + 1) = (us.length + 1) * (b + 1) + (b + 1) := by rw [Nat.add_mul]; omega
    omega
theorem wr_len (ns : List Int) (h : is16 ns) : (wr ns).length ≤ ns.length * 5 := by
  have := txt_len 16 58 4 (ns.map Int.toNat) (fun u hu => by
    obtain ⟨n, hn, rfl⟩ := List.mem_map.1 hu
    have := h n hn
    exact numD16_len _ (by omega))
  simpa [wr] using this
theorem written_go (K : Nat) (ns : List Int) (h : is16 ns) (hl : ns.length ≤ 100) : ∀ (m i k : Nat) (out : List (List UInt8)), i + m = ns.length → m < k → out.length ≤ i → addr_written.l0 (K + 80) ns k out (i : Int) = some (out ++ hexs (ns.drop i))
  | 0, i, k, out, hi, hk, _ => by
    obtain ⟨k, rfl⟩ : ∃ k', k = k' + 1 := ⟨k - 1, by omega⟩
    rw [addr_written.l0, if_neg (by simp; omega), List.drop_of_length_le (by omega)]
    simp [hexs]
  | m + 1, i, k, out, hi, hk, ho => by
    obtain ⟨k, rfl⟩ : ∃ k', k = k' + 1 := ⟨k - 1, by omega⟩
    have e3 : IntKind.i64.wrap ((i : Int) + 1) = ((i + 1 : Nat) : Int) := by rw [w64 _ (by omega)]; omega
    have hil : i < ns.length := by omega
    have hx := h ns[i] (List.getElem_mem hil)
    have hh := hex_ok K ns[i].toNat (by omega)
    rw [show ((ns[i].toNat : Nat) : Int) = ns[i] by omega] at hh
    rw [addr_written.l0, if_pos (by simp; omega), if_pos (by omega), rd_at _ _ hil, hh, Option.bind_some, if_pos (by simp; omega), e3, written_go K ns h hl m (i + 1) k _ (by omega) (by omega) (by simp; omega), List.drop_eq_getElem_cons hil]
    simp only [hexs, List.map_cons, List.append_assoc, List.singleton_append]
theorem written_ok (k : Nat) (ns : List Int) (h : is16 ns) (hl : ns.length ≤ 100) : addr_written.f (k + 120) ns = some (wr ns) := by
  unfold addr_written.f
  have := written_go (k + 40) ns h hl ns.length 0 (k + 40 + 80) [] (by omega) (by omega) (Nat.zero_le _)
  rw [show k + 40 + 80 = k + 120 by omega, show ((0 : Nat) : Int) = 0 from rfl, List.nil_append, List.drop_zero] at this
  rw [this, Option.bind_some]
  unfold strings_Join.f
  have h2 := wr_len ns h
  rw [join_wr, if_pos ⟨by simp [hexs]; omega, by omega⟩]; rfl
/-- the text of sixteen bytes -/
def txt6 (l : List Int) : List UInt8 :=
  let g := gapOf (nums l)
  if g.2 < 2 then wr (nums l) else wr ((nums l).take g.1) ++ 58 :: 58 :: wr ((nums l).drop (g.1 + g.2))
theorem nums16 {l : List Int} (h : isB l) : is16 (nums l) := by
  intro n hn
  simp only [nums, List.mem_cons, List.not_mem_nil, or_false] at hn
  rcases hn with rfl | rfl | rfl | rfl | rfl | rfl | rfl | rfl <;> exact n16_lt h _
theorem is16.sub {x y : List Int} (h : is16 x) (hs : ∀ n ∈ y, n ∈ x) : is16 y := fun n hn => h n (hs n hn)
theorem nums_len (l : List Int) : (nums l).length = 8 := rfl
theorem arL8n (l : List Int) : arL 8 (nums l) = nums l := by have := arL_self (nums l); rwa [nums_len] at this
theorem text6_ok (k : Nat) (a : S_api_Addr) (hB : isB a.B) : addr_text6.f (k + 120) a = some (txt6 a.B) := by
  unfold addr_text6.f
  have h1 := numbers_ok (k + 100) a hB
  have h2 := gap_ok (k + 100) (nums a.B)
  have h3 := gapOf_ok (nums a.B)
  have h16 := nums16 hB
  have ht : is16 ((nums a.B).take (gapOf (nums a.B)).1) := h16.sub fun n hn => List.mem_of_mem_take hn
  have hd : is16 ((nums a.B).drop ((gapOf (nums a.B)).1 + (gapOf (nums a.B)).2)) := h16.sub fun n hn => List.mem_of_mem_drop hn
  have l1 := wr_len _ ht
  have l2 := wr_len _ hd
  simp only [List.length_take, List.length_drop, nums_len] at l1 l2
  have e1 : IntKind.i64.wrap (((gapOf (nums a.B)).1 : Int) + ((gapOf (nums a.B)).2 : Int)) = (((gapOf (nums a.B)).1 + (gapOf (nums a.B)).2 : Nat) : Int) := by rw [w64 _ (by omega)]; omega
  rw [h1, Option.bind_some, h2, Option.bind_some, arL8n]
  simp only
  unfold txt6
  by_cases hg : (gapOf (nums a.B)).2 < 2
  · rw [if_pos (by simp; omega), if_pos hg, written_ok k _ h16 (by rw [nums_len]; decide)]; rfl
  · rw [if_neg (by simp; omega), if_neg hg, if_pos (by omega), Int.toNat_natCast, show Int.toNat 0 = 0 from rfl, List.drop_zero, written_ok k _ ht (by simp [nums_len]; omega), Option.bind_some, if_pos (by simp; omega), e1, if_pos (by omega), Int.toNat_natCast, List.take_of_length_le (by rw [nums_len]; decide), written_ok k _ hd (by simp [nums_len]; omega), Option.bind_some, if_pos (by simp; omega)]
    simp
theorem txt6_len {l : List Int} (hB : isB l) : (txt6 l).length ≤ 100 := by
  have h16 := nums16 hB
  have h3 := gapOf_ok (nums l)
  have ht : is16 ((nums l).take (gapOf (nums l)).1) := h16.sub fun n hn => List.mem_of_mem_take hn
  have hd : is16 ((nums l).drop ((gapOf (nums l)).1 + (gapOf (nums l)).2)) := h16.sub fun n hn => List.mem_of_mem_drop hn
  have l0 := wr_len _ h16
  have l1 := wr_len _ ht
  have l2 := wr_len _ hd
  simp only [List.length_take, List.length_drop, nums_len] at l0 l1 l2
  unfold txt6
  simp only
  by_cases hg : (gapOf (nums l)).2 < 2
  · rw [if_pos hg]; omega
  · rw [if_neg hg]; simp; omega
theorem numD_char {base : Nat} (hb : base ≤ 16) (hb2 : 2 ≤ base) : ∀ u, ∀ c ∈ numD base u, (48 ≤ c.toNat ∧ c.toNat ≤ 57) ∨ (97 ≤ c.toNat ∧ c.toNat ≤ 102) := by
  have one : ∀ d, d < 16 → (48 ≤ (dgt d).toNat ∧ (dgt d).toNat ≤ 57) ∨ (97 ≤ (dgt d).toNat ∧ (dgt d).toNat ≤ 102) := fun d hd => by
    rw [dgt_toNat hd]; split <;> omega
  intro u
  induction u using Nat.strongRecOn with
  | ind u ih =>
    intro c hc
    by_cases hs : u < base
    · rw [numD_small hs] at hc
      rw [List.mem_singleton.1 hc]; exact one u (by omega)
    · rw [numD_big (by omega) hb2] at hc
      rcases List.mem_append.1 hc with h | h
      · exact ih (u / base) (Nat.div_lt_self (by omega) (by omega)) c h
      · rw [List.mem_singleton.1 h]; exact one _ (by have := Nat.mod_lt u (show 0 < base by omega); omega)
theorem numD_free {base : Nat} (hb : base ≤ 16) (hb2 : 2 ≤ base) (u : Nat) (c : UInt8) (hc : c.toNat < 48 ∨ c.toNat = 58 ∨ 102 < c.toNat) : c ∉ numD base u := fun h => by
  have := numD_char hb hb2 u c h
  omega
theorem numD_ne {base : Nat} (hb2 : 2 ≤ base) (u : Nat) : numD base u ≠ [] := fun e => by
  have := numD_len hb2 u
  rw [e] at this; simp at this
theorem txtL_head {base : Nat} (hb : base ≤ 16) (hb2 : 2 ≤ base) (sep : UInt8) (c : UInt8) (hc : c.toNat < 48 ∨ c.toNat = 58 ∨ 102 < c.toNat) (u : Nat) (us : List Nat) : txtL base sep (u :: us) ≠ [] ∧ (txtL base sep (u :: us)).head? ≠ some c := by
  have h1 := numD_ne hb2 u
  have h2 := numD_free hb hb2 u c hc
  have key : ∀ r, (numD base u ++ r) ≠ [] ∧ (numD base u ++ r).head? ≠ some c := fun r => by
    obtain ⟨x, xs, e⟩ := List.exists_cons_of_ne_nil h1
    rw [e] at h2 ⊢
    exact ⟨by simp, by simp; exact fun e => h2 (by simp [e])⟩
  cases us with
  | nil => have := key []; rwa [List.append_nil] at this
  | cons v us => exact key _
theorem noDbl_wr : ∀ us : List Nat, noDbl (txtL 16 58 us) = true
  | [] => rfl
  | [u] => noDbl_free (numD_free (by decide) (by decide) u 58 (by decide))
  | u :: v :: us => by
    have h := txtL_head (base := 16) (by decide) (by decide) 58 58 (by decide) v us
    exact noDbl_app _ _ (numD_ne (by decide) u) (numD_free (by decide) (by decide) u 58 (by decide)) h.1 h.2 (noDbl_wr (v :: us))
theorem txtL_free {base : Nat} (hb : base ≤ 16) (hb2 : 2 ≤ base) (sep : UInt8) (c : UInt8) (hc : c.toNat < 48 ∨ c.toNat = 58 ∨ 102 < c.toNat) (hs : c ≠ sep) : ∀ us : List Nat, c ∉ txtL base sep us
  | [] => by simp [txtL]
  | [u] => numD_free hb hb2 u c hc
  | u :: v :: us => by
    have h1 := numD_free hb hb2 u c hc
    have h2 := txtL_free hb hb2 sep c hc hs (v :: us)
    rw [txtL]
    simp [h1, h2, hs]
/-! what parts says of any text -/
def curT (base : Nat) (v : Int) : List UInt8 := if v < 0 then [] else numD base v.toNat
def isHex (c : UInt8) : Prop := (48 ≤ c.toNat ∧ c.toNat ≤ 57) ∨ (97 ≤ c.toNat ∧ c.toNat ≤ 102)
theorem digV_some {c base d : Nat} (h : digV c base = some d) (hb : base ≤ 16) : d < base ∧ c = (if d < 10 then 48 + d else 87 + d) ∧ c < 128 ∧ ((48 ≤ c ∧ c ≤ 57) ∨ (97 ≤ c ∧ c ≤ 102)) := by
  unfold digV at h
  by_cases h1 : 48 ≤ c ∧ c ≤ 57
  · rw [if_pos h1] at h
    by_cases h2 : c - 48 < base
    · rw [if_pos h2] at h
      obtain rfl := Option.some.inj h
      refine ⟨h2, ?_, by omega, .inl h1⟩
      rw [if_pos (by omega)]; omega
    · rw [if_neg h2] at h; cases h
  · rw [if_neg h1] at h
    by_cases h3 : 97 ≤ c ∧ c ≤ 102
    · rw [if_pos h3] at h
      by_cases h2 : c - 87 < base
      · rw [if_pos h2] at h
        obtain rfl := Option.some.inj h
        refine ⟨h2, ?_, by omega, .inr h3⟩
        rw [if_neg (by omega)]; omega
      · rw [if_neg h2] at h; cases h
    · rw [if_neg h3] at h; cases h
theorem dec_low (s : List UInt8) (p : Nat) (h : p < s.length) (hc : (dec s p).1 < 128) : dec s p = ((s[p]).toNat, 1) ∧ (s[p]).toNat < 128 := by
  by_cases ha : (s[p]).toNat < 128
  · exact ⟨dec_ascii s p h ha, ha⟩
  · exact absurd (dec_high s p h (by omega)).1 (by omega)
theorem dgt_of {x : UInt8} {d : Nat} (hd : d < 16) (h : x.toNat = (if d < 10 then 48 + d else 87 + d)) : x = dgt d := UInt8.toNat_inj.1 (by rw [h, dgt_toNat hd])
theorem cur_next (base d : Nat) (v : Int) (hb2 : 2 ≤ base) (hd : d < base) (hv : -1 ≤ v) (h0 : v ≠ 0) : curT base (nextN v base d) = curT base v ++ [dgt d] := by
  unfold curT nextN
  by_cases h : v < 0
  · rw [if_pos h, if_neg (by simp [h]), if_pos h, show ((0 : Int) * base + d).toNat = d by omega, numD_small hd]; rfl
  · rw [if_neg h, if_neg h]
    obtain ⟨u, rfl⟩ := Int.eq_ofNat_of_zero_le (show 0 ≤ v by omega)
    have e : ((u : Int) * base + d) = ((u * base + d : Nat) : Int) := by push_cast; rfl
    have hu : 1 ≤ u := by omega
    have hge : base ≤ u * base := Nat.le_mul_of_pos_left base hu
    rw [e, if_neg (by omega), Int.toNat_natCast, Int.toNat_natCast, numD_big (by omega) hb2]
    have q1 : (u * base + d) / base = u := by rw [Nat.mul_comm, Nat.mul_add_div (by omega), Nat.div_eq_of_lt hd, Nat.add_zero]
    have q2 : (u * base + d) % base = d := by rw [Nat.mul_comm, Nat.mul_add_mod, Nat.mod_eq_of_lt hd]
    rw [q1, q2]
theorem drop_cons (s : List UInt8) (p : Nat) (h : p < s.length) : s.drop p = s[p] :: s.drop (p + 1) := List.drop_eq_getElem_cons h
theorem parts_inv (s : List UInt8) (sep : UInt8) (base limit : Nat) (hsep : sep.toNat < 128) (hb2 : 2 ≤ base) (hb : base ≤ 16) (hl : limit ≤ 65536) (hl0 : 1 ≤ limit) :
    ∀ (n k : Nat) (out : List Int) (v : Int) (p : Nat), s.length - p ≤ n → n < k → out.length + (s.length - p) ≤ 10000000 → -1 ≤ v → v < limit →
      ∃ r, addr_parts.l0 s (sep.toNat : Int) (base : Int) (limit : Int) k (out ++ [v]) p = some r ∧
        (r = .inl ([], false) ∨ ∃ (d : List Int) (x : Int) (p' : Nat), r = .inr (out ++ (d ++ [x]), p') ∧ d.length ≤ s.length - p ∧ (∀ y ∈ d ++ [x], -1 ≤ y ∧ y < limit) ∧
          (d = [] → curT base x = curT base v ++ s.drop p) ∧ ∀ c ∈ s.drop p, c = sep ∨ isHex c) := by
  intro n
  induction n with
  | zero =>
    intro k out v p hn hk ho hv hv2
    obtain ⟨k, rfl⟩ : ∃ k', k = k' + 1 := ⟨k - 1, by omega⟩
    have hd : s.drop p = [] := List.drop_of_length_le (by omega)
    refine ⟨.inr (out ++ [v], p), by rw [addr_parts.l0, if_neg (by omega)], .inr ⟨[], v, p, by simp, by simp, by simpa using ⟨hv, hv2⟩, fun _ => by rw [hd, List.append_nil], fun c hc => by rw [hd] at hc; cases hc⟩⟩
  | succ n ih =>
    intro k out v p hn hk ho hv hv2
    obtain ⟨k, rfl⟩ : ∃ k', k = k' + 1 := ⟨k - 1, by omega⟩
    by_cases hp : p < s.length
    · rw [parts_step s sep.toNat base limit hb hl k out v p hp (by omega) ⟨hv, by omega⟩ (by omega)]
      by_cases h1 : (dec s p).1 = sep.toNat
      · obtain ⟨q1, q2⟩ := dec_low s p hp (by omega)
        rw [if_pos h1, q1]
        have hs : s[p] = sep := UInt8.toNat_inj.1 (by rw [q1] at h1; exact h1)
        obtain ⟨r, hr, hx⟩ := ih k (out ++ [v]) (-1) (p + 1) (by omega) (by omega) (by simp; omega) (by omega) (by omega)
        refine ⟨r, hr, hx.imp id ?_⟩
        rintro ⟨d, x, p', e, hd, hy, _, hc⟩
        refine ⟨v :: d, x, p', by rw [e]; simp, by simp; omega, ?_, fun h => by simp at h, fun c hc' => ?_⟩
        · intro y hy'
          rcases List.mem_cons.1 (by simpa using hy' : y ∈ v :: (d ++ [x])) with rfl | h
          · exact ⟨hv, hv2⟩
          · exact hy y h
        · rw [drop_cons s p hp] at hc'
          rcases List.mem_cons.1 hc' with rfl | h
          · exact .inl hs
          · exact hc c h
      · rw [if_neg h1]
        cases hdv : digV (dec s p).1 base with
        | none => exact ⟨_, rfl, .inl rfl⟩
        | some d =>
          obtain ⟨g1, g2, g3, g4⟩ := digV_some hdv hb
          obtain ⟨q1, q2⟩ := dec_low s p hp g3
          simp only
          by_cases h2 : (limit : Int) ≤ nextN v base d ∨ v = 0
          · rw [if_pos h2]; exact ⟨_, rfl, .inl rfl⟩
          · rw [if_neg h2, q1]
            rw [q1] at g2 g4
            simp only at g2 g4
            have hv0 : v ≠ 0 := fun e => h2 (.inr e)
            have hlt : nextN v base d < limit := by
              by_cases h3 : (limit : Int) ≤ nextN v base d
              · exact absurd (.inl h3) h2
              · omega
            have hge : -1 ≤ nextN v base d := by
              have : 0 ≤ (if v < 0 then (0 : Int) else v) * base := Int.mul_nonneg (by split <;> omega) (by omega)
              unfold nextN; omega
            obtain ⟨r, hr, hx⟩ := ih k out (nextN v base d) (p + 1) (by omega) (by omega) (by omega) hge hlt
            refine ⟨r, hr, hx.imp id ?_⟩
            rintro ⟨d', x, p', e, hd, hy, ht, hc⟩
            refine ⟨d', x, p', e, by omega, hy, fun h => ?_, fun c hc' => ?_⟩
            · rw [ht h, cur_next base d v hb2 g1 hv hv0, drop_cons s p hp, dgt_of (by omega) g2]
              simp
            · rw [drop_cons s p hp] at hc'
              rcases List.mem_cons.1 hc' with rfl | h
              · exact .inr g4
              · exact hc c h
    · have hd : s.drop p = [] := List.drop_of_length_le (by omega)
      refine ⟨.inr (out ++ [v], p), by rw [addr_parts.l0, if_neg hp], .inr ⟨[], v, p, by simp, by simp, by simpa using ⟨hv, hv2⟩, fun _ => by rw [hd, List.append_nil], fun c hc => by rw [hd] at hc; cases hc⟩⟩
theorem parts_any (k : Nat) (s : List UInt8) (sep : UInt8) (base limit : Nat) (hsep : sep.toNat < 128) (hb2 : 2 ≤ base) (hb : base ≤ 16) (hl : limit ≤ 65536) (hl0 : 1 ≤ limit) (hs : s.length ≤ 10000000) (hk : s.length < k) :
    addr_parts.f k s (sep.toNat : Int) (base : Int) (limit : Int) = some ([], false) ∨ ∃ (d : List Int) (x : Int), addr_parts.f k s (sep.toNat : Int) (base : Int) (limit : Int) = some (d ++ [x], true) ∧ d.length ≤ s.length ∧ (∀ y ∈ d ++ [x], -1 ≤ y ∧ y < limit) ∧ (d = [] → curT base x = s) ∧ ∀ c ∈ s, c = sep ∨ isHex c := by
  obtain ⟨r, hr, hx⟩ := parts_inv s sep base limit hsep hb2 hb hl hl0 s.length k [] (-1) 0 (Nat.sub_le _ _) hk (by simp; omega) (by omega) (by omega)
  unfold addr_parts.f
  rw [List.nil_append] at hr
  rw [hr, Option.bind_some]
  rcases hx with rfl | ⟨d, x, p', rfl, h1, h2, h3, h4⟩
  · exact .inl rfl
  · refine .inr ⟨d, x, by simp, by omega, h2, fun e => ?_, by simpa using h4⟩
    have := h3 e
    simpa [curT] using this
/-! an address of sixteen bytes, read -/
theorem half_go (t : List Int × Bool) (hl : t.1.length ≤ 1000) : ∀ (m i k : Nat), i + m = t.1.length → m < k → ∃ r, addr_half.l0 t k (i : Int) = some r ∧ (r = .inl ([], false) ∧ (∃ y ∈ t.1.drop i, y < 0) ∨ r = .inr () ∧ ∀ y ∈ t.1.drop i, 0 ≤ y)
  | 0, i, k, hi, hk => by
    obtain ⟨k, rfl⟩ : ∃ k', k = k' + 1 := ⟨k - 1, by omega⟩
    refine ⟨.inr (), by rw [addr_half.l0, if_neg (by simp; omega)], .inr ⟨rfl, fun y hy => ?_⟩⟩
    rw [List.drop_of_length_le (by omega)] at hy; cases hy
  | m + 1, i, k, hi, hk => by
    obtain ⟨k, rfl⟩ : ∃ k', k = k' + 1 := ⟨k - 1, by omega⟩
    have hil : i < t.1.length := by omega
    have e3 : IntKind.i64.wrap ((i : Int) + 1) = ((i + 1 : Nat) : Int) := by rw [w64 _ (by omega)]; omega
    rw [addr_half.l0, if_pos (by simp; omega), if_pos (by omega), rd_at _ _ hil, e3, List.drop_eq_getElem_cons hil]
    by_cases h0 : t.1[i] < 0
    · rw [if_pos (by simpa using h0)]
      exact ⟨_, rfl, .inl ⟨rfl, _, List.mem_cons_self, h0⟩⟩
    · rw [if_neg (by simpa using h0)]
      obtain ⟨r, hr, hx⟩ := half_go t hl m (i + 1) k (by omega) (by omega)
      refine ⟨r, hr, hx.imp (fun ⟨h1, y, hy, hy0⟩ => ⟨h1, y, List.mem_cons_of_mem _ hy, hy0⟩) fun ⟨h1, h2⟩ => ⟨h1, fun y hy => ?_⟩⟩
      rcases List.mem_cons.1 hy with rfl | h
      · omega
      · exact h2 y h
theorem half_any (k : Nat) (s : List UInt8) (hs : s.length ≤ 10000000) (hk : s.length + 1000 < k) : ∃ l ok, addr_half.f k s = some (l, ok) ∧ (ok = false ∧ l = [] ∨ ok = true ∧ l.length ≤ 8 ∧ is16 l) := by
  unfold addr_half.f
  rw [bstr_toList, bstr_toList]
  by_cases h0 : s = []
  · rw [if_pos (by simpa using h0)]; exact ⟨_, _, rfl, .inr ⟨rfl, by simp, fun n h => nomatch h⟩⟩
  · rw [if_neg (by simpa using h0)]
    rcases parts_any k s 58 16 65536 (by decide) (by decide) (by decide) (by decide) (by decide) hs (by omega) with h | ⟨d, x, h, h1, h2, _, _⟩
    · rw [show (58 : Int) = (((58 : UInt8).toNat : Nat) : Int) from rfl, show (16 : Int) = ((16 : Nat) : Int) from rfl, show (65536 : Int) = ((65536 : Nat) : Int) from rfl, h, Option.bind_some, if_pos (by simp)]
      exact ⟨_, _, rfl, .inl ⟨rfl, rfl⟩⟩
    · rw [show (58 : Int) = (((58 : UInt8).toNat : Nat) : Int) from rfl, show (16 : Int) = ((16 : Nat) : Int) from rfl, show (65536 : Int) = ((65536 : Nat) : Int) from rfl, h, Option.bind_some]
      by_cases hl : 8 < (d ++ [x]).length
      · rw [if_pos (by simp at hl ⊢; omega)]
        exact ⟨_, _, rfl, .inl ⟨rfl, rfl⟩⟩
      · rw [if_neg (by simp at hl ⊢; omega)]
        obtain ⟨r, hr, hx⟩ := half_go (d ++ [x], true) (by simp at hl ⊢; omega) (d ++ [x]).length 0 k (by simp) (by simp at hl ⊢; omega)
        rw [show ((0 : Nat) : Int) = 0 from rfl] at hr
        rw [hr, Option.bind_some]
        rcases hx with ⟨rfl, _⟩ | ⟨rfl, h3⟩
        · exact ⟨_, _, rfl, .inl ⟨rfl, rfl⟩⟩
        · refine ⟨d ++ [x], true, rfl, .inr ⟨rfl, by omega, fun n hn => ?_⟩⟩
          have := h2 n hn; have := h3 n (by simpa using hn)
          omega
theorem is16_nat {ns : List Int} (h : is16 ns) : (ns.map Int.toNat).map (fun u : Nat => (u : Int)) = ns := by
  rw [List.map_map]
  conv => rhs; rw [← List.map_id ns]
  exact List.map_congr_left fun n hn => by have := h n hn; simp; omega
theorem half_ok (k : Nat) (ns : List Int) (h : is16 ns) (hl : ns.length ≤ 8) (hk : 1000 ≤ k) : addr_half.f k (wr ns) = some (ns, true) := by
  unfold addr_half.f
  rw [bstr_toList, bstr_toList]
  by_cases h0 : ns = []
  · subst h0; rw [if_pos (by decide)]
  · obtain ⟨x, xs, rfl⟩ := List.exists_cons_of_ne_nil h0
    have hne := (txtL_head (base := 16) (by decide) (by decide) 58 58 (by decide) x.toNat (xs.map Int.toNat)).1
    have hne' : wr (x :: xs) ≠ [] := hne
    rw [if_neg (by simpa using hne')]
    have hlen := wr_len (x :: xs) h
    have hp := parts_f k 58 16 65536 (by decide) (by decide) (by decide) (by decide) ((x :: xs).map Int.toNat) (by simp) (by simp at hl ⊢; omega) (fun u hu => by
      obtain ⟨n, hn, rfl⟩ := List.mem_map.1 hu
      have := h n hn; omega) (by unfold wr at hlen; omega)
    rw [is16_nat h] at hp
    rw [show (58 : Int) = (((58 : UInt8).toNat : Nat) : Int) from rfl, show (16 : Int) = ((16 : Nat) : Int) from rfl, show (65536 : Int) = ((65536 : Nat) : Int) from rfl]
    unfold wr
    rw [hp, Option.bind_some, if_neg (by simp at hl ⊢; omega)]
    obtain ⟨r, hr, hx⟩ := half_go (x :: xs, true) (by simp at hl ⊢; omega) (x :: xs).length 0 k (by simp) (by simp at hl ⊢; omega)
    rw [show ((0 : Nat) : Int) = 0 from rfl] at hr
    rw [hr, Option.bind_some]
    rcases hx with ⟨rfl, y, hy, hy0⟩ | ⟨rfl, h3⟩
    · have := h y (by simpa using hy); omega
    · rfl
/-- numbers put into sixteen bytes, from one on, so many -/
def putTo (b : List Int) (at_ : Nat) (l : List Int) (i : Nat) : List Int := (List.range 16).map fun j => if at_ ≤ j / 2 ∧ j / 2 < at_ + i then (if j % 2 = 0 then l.getD (j / 2 - at_) 0 / 256 else l.getD (j / 2 - at_) 0 % 256) else ar b j
theorem putTo_len (b : List Int) (a : Nat) (l : List Int) (i : Nat) : (putTo b a l i).length = 16 := by simp [putTo]
theorem putTo_ar (b : List Int) (a : Nat) (l : List Int) (i j : Nat) (hj : j < 16) : ar (putTo b a l i) j = if a ≤ j / 2 ∧ j / 2 < a + i then (if j % 2 = 0 then l.getD (j / 2 - a) 0 / 256 else l.getD (j / 2 - a) 0 % 256) else ar b j := by
  rw [ar_at _ _ (by rw [putTo_len]; exact hj)]
  simp [putTo]
theorem ar_ext {x y : List Int} (hx : x.length = 16) (hy : y.length = 16) (h : ∀ j, j < 16 → ar x j = ar y j) : x = y := by
  apply List.ext_getElem
  · omega
  · intro j h1 h2
    have := h j (by omega)
    rwa [ar_at _ _ h1, ar_at _ _ h2] at this
theorem arL16 {x : List Int} (hx : x.length = 16) : arL 16 x = x := by have := arL_self x; rwa [hx] at this
theorem ar_setD (x : List Int) (i j : Nat) (v : Int) (hi : i < x.length) : ar (x.set i v) j = if j = i then v else ar x j := by
  unfold ar
  simp only [List.getD_eq_getElem?_getD, List.getElem?_set]
  by_cases e : i = j
  · subst e; simp [hi]
  · simp [e]; exact fun hh => absurd hh.symm e
theorem u8_div (n : Int) (h : 0 ≤ n ∧ n < 65536) : IntKind.u8.wrap (Int.fdiv n (2 ^ (min (8 : Int).toNat IntKind.i64.bits))) = n / 256 ∧ IntKind.u8.wrap n = n % 256 := by
  have e : ((2 : Int) ^ (min (8 : Int).toNat IntKind.i64.bits)) = 256 := rfl
  rw [e, Int.fdiv_eq_ediv_of_nonneg _ (by omega), IntKind.wrap_u8, IntKind.wrap_u8]
  omega
theorem put_go (b : List Int) (a : Nat) (l : List Int) (h : is16 l) (ha : a + l.length ≤ 8) : ∀ (m i k : Nat) (x : List Int), i + m = l.length → m < k → x.length = 16 → x = putTo b a l i → addr_put6.l0 (a : Int) l k (i : Int) x = some (putTo b a l l.length)
  | 0, i, k, x, hi, hk, hx, e => by
    obtain ⟨k, rfl⟩ : ∃ k', k = k' + 1 := ⟨k - 1, by omega⟩
    rw [addr_put6.l0, if_neg (by simp; omega), e, show i = l.length by omega]
  | m + 1, i, k, x, hi, hk, hx, e => by
    obtain ⟨k, rfl⟩ : ∃ k', k = k' + 1 := ⟨k - 1, by omega⟩
    have hil : i < l.length := by omega
    have e0 : IntKind.i64.wrap ((a : Int) + i) = ((a + i : Nat) : Int) := by rw [w64 _ (by omega)]; omega
    have e1 : IntKind.i64.wrap (2 * ((a + i : Nat) : Int)) = ((2 * (a + i) : Nat) : Int) := by rw [w64 _ (by omega)]; omega
    have e2 : IntKind.i64.wrap (((2 * (a + i) : Nat) : Int) + 1) = ((2 * (a + i) + 1 : Nat) : Int) := by rw [w64 _ (by omega)]; omega
    have e3 : IntKind.i64.wrap ((i : Int) + 1) = ((i + 1 : Nat) : Int) := by rw [w64 _ (by omega)]; omega
    have hn := h l[i] (List.getElem_mem hil)
    rw [addr_put6.l0, if_pos (by simp; omega), if_pos (by omega), e0, e1, e2, e3, if_pos (by omega), if_pos (by omega), rd_at _ _ hil, (u8_div _ hn).1, (u8_div _ hn).2, Int.toNat_natCast, Int.toNat_natCast, arL16 hx, arL16 (by simpa using hx)]
    refine put_go b a l h ha m (i + 1) k _ (by omega) (by omega) (by simpa using hx) ?_
    refine ar_ext (by simpa using hx) (putTo_len _ _ _ _) fun j hj => ?_
    rw [ar_setD _ _ _ _ (by simp [hx]; omega), ar_setD _ _ _ _ (by omega), e, putTo_ar _ _ _ _ _ hj, putTo_ar _ _ _ _ _ hj]
    by_cases h1 : j = 2 * (a + i) + 1
    · rw [if_pos h1, if_pos (by omega), if_neg (by omega), show j / 2 - a = i by omega, List.getD_eq_getElem?_getD, List.getElem?_eq_getElem hil]; rfl
    · rw [if_neg h1]
      by_cases h2 : j = 2 * (a + i)
      · rw [if_pos h2, if_pos (by omega), if_pos (by omega), show j / 2 - a = i by omega, List.getD_eq_getElem?_getD, List.getElem?_eq_getElem hil]; rfl
      · rw [if_neg h2]
        by_cases h3 : a ≤ j / 2 ∧ j / 2 < a + i
        · have h4 : a ≤ j / 2 ∧ j / 2 < a + (i + 1) := by omega
          rw [if_pos h3, if_pos h4]
        · have h4 : ¬ (a ≤ j / 2 ∧ j / 2 < a + (i + 1)) := by omega
          rw [if_neg h3, if_neg h4]
theorem put6_ok (k : Nat) (x : S_api_Addr) (hx : x.B.length = 16) (a : Nat) (l : List Int) (h : is16 l) (ha : a + l.length ≤ 8) (hk : 20 ≤ k) : addr_put6.f k x (a : Int) l = some ⟨x.Size, putTo x.B a l l.length⟩ := by
  unfold addr_put6.f
  have := put_go x.B a l h ha l.length 0 k x.B (by omega) (by omega) hx (ar_ext hx (putTo_len _ _ _ _) fun j hj => by rw [putTo_ar _ _ _ _ _ hj, if_neg (by omega)])
  rw [show ((0 : Nat) : Int) = 0 from rfl] at this
  rw [this]; rfl
theorem putTo_isB {b : List Int} (hb : isB b) (a : Nat) (l : List Int) (h : is16 l) : isB (putTo b a l l.length) := by
  intro y hy
  obtain ⟨j, hj, rfl⟩ := List.mem_iff_getElem.1 hy
  rw [putTo_len] at hj
  rw [← ar_at _ _ (by rw [putTo_len]; exact hj), putTo_ar _ _ _ _ _ hj]
  split
  · rename_i hh
    have hil : j / 2 - a < l.length := by omega
    have hn := h l[j / 2 - a] (List.getElem_mem hil)
    rw [List.getD_eq_getElem?_getD, List.getElem?_eq_getElem hil]
    simp only [Option.getD_some]
    split <;> omega
  · exact ar_isB hb j
def join6 (l m : List Int) : List Int := putTo (putTo (List.replicate 16 0) 0 l l.length) (8 - m.length) m m.length
theorem zeros_isB : isB (List.replicate 16 (0 : Int)) := fun y hy => by rw [List.eq_of_mem_replicate hy]; decide
theorem join6_isB (l m : List Int) (hl : is16 l) (hm : is16 m) : isB (join6 l m) ∧ (join6 l m).length = 16 := ⟨putTo_isB (putTo_isB zeros_isB 0 l hl) _ m hm, putTo_len _ _ _ _⟩
theorem read6_cases (k : Nat) (s F G : List UInt8) (dbl : Bool) (l m : List Int) (o1 o2 : Bool) (hs : s.length < 4294967281) (hc : Lib.cut s [58, 58] = (F, G, dbl)) (h1 : addr_half.f k F = some (l, o1)) (h2 : addr_half.f k G = some (m, o2)) (hl : l.length ≤ 8) (hm : m.length ≤ 8) (il : is16 l) (im : is16 m) (hk : 20 ≤ k) :
    addr_read6.f k s = some (if o1 = false ∨ o2 = false ∨ 8 < l.length + m.length ∨ dbl = false ∧ l.length ≠ 8 then (⟨0, List.replicate 16 0⟩, false) else (⟨16, join6 l m⟩, true)) := by
  unfold addr_read6.f strings_Cut.f
  have e1 : IntKind.i64.wrap ((l.length : Int) + (m.length : Int)) = ((l.length + m.length : Nat) : Int) := by rw [w64 _ (by omega)]; omega
  have e2 : IntKind.i64.wrap ((8 : Int) - (m.length : Int)) = ((8 - m.length : Nat) : Int) := by rw [w64 _ (by omega)]; omega
  rw [if_pos hs, hc, Option.bind_some]
  simp only [h1, h2, Option.bind_some, e1, e2]
  by_cases g : o1 = false ∨ o2 = false ∨ 8 < l.length + m.length ∨ dbl = false ∧ l.length ≠ 8
  · rw [if_pos g, if_pos]
    rcases g with rfl | rfl | g | ⟨rfl, g⟩
    · simp
    · simp
    · have : decide (((l.length + m.length : Nat) : Int) > 8) = true := by simp only [decide_eq_true_eq]; omega
      rw [this]; simp
    · have : ((l.length : Int) != 8) = true := by simp; omega
      simp [this]
  · rw [if_neg g, if_neg]
    · have p1 := put6_ok k ⟨16, List.replicate 16 0⟩ (by simp) 0 l il (by omega) hk
      have p2 := put6_ok k ⟨16, putTo (List.replicate 16 0) 0 l l.length⟩ (putTo_len _ _ _ _) (8 - m.length) m im (by omega) hk
      rw [show ((0 : Nat) : Int) = 0 from rfl] at p1
      rw [p1, Option.bind_some, p2]; rfl
    · have g1 : o1 = true := by simpa using fun e => g (.inl e)
      have g2 : o2 = true := by simpa using fun e => g (.inr (.inl e))
      have g3 : ¬ 8 < l.length + m.length := fun e => g (.inr (.inr (.inl e)))
      have g4 : decide (((l.length + m.length : Nat) : Int) > 8) = false := by simp; omega
      rw [g1, g2, g4]
      cases hd : dbl with
      | true => simp
      | false =>
        have : l.length = 8 := Classical.not_not.1 fun e => g (.inr (.inr (.inr ⟨hd, e⟩)))
        simp [this]
theorem cut_le (s c : List UInt8) : (Lib.cut s c).1.length ≤ s.length ∧ (Lib.cut s c).2.1.length ≤ s.length := by
  unfold Lib.cut
  split <;> simp <;> omega
theorem read6_any (k : Nat) (s : List UInt8) (hs : s.length ≤ 10000000) (hk : s.length + 1000 < k) : ∃ a ok, addr_read6.f k s = some (a, ok) ∧ isB a.B ∧ a.B.length = 16 := by
  have hc := cut_le s [58, 58]
  obtain ⟨l, o1, h1, p1⟩ := half_any k (Lib.cut s [58, 58]).1 (by omega) (by omega)
  obtain ⟨m, o2, h2, p2⟩ := half_any k (Lib.cut s [58, 58]).2.1 (by omega) (by omega)
  have f1 : l.length ≤ 8 ∧ is16 l := by
    rcases p1 with ⟨_, rfl⟩ | ⟨_, h, h'⟩
    · exact ⟨by simp, fun n h => nomatch h⟩
    · exact ⟨h, h'⟩
  have f2 : m.length ≤ 8 ∧ is16 m := by
    rcases p2 with ⟨_, rfl⟩ | ⟨_, h, h'⟩
    · exact ⟨by simp, fun n h => nomatch h⟩
    · exact ⟨h, h'⟩
  have c := read6_cases k s _ _ (Lib.cut s [58, 58]).2.2 l m o1 o2 (by omega) rfl h1 h2 f1.1 f2.1 f1.2 f2.2 (by omega)
  by_cases g : o1 = false ∨ o2 = false ∨ 8 < l.length + m.length ∨ (Lib.cut s [58, 58]).2.2 = false ∧ l.length ≠ 8
  · rw [if_pos g] at c; exact ⟨_, _, c, zeros_isB, by simp⟩
  · rw [if_neg g] at c; exact ⟨_, _, c, join6_isB l m f1.2 f2.2⟩
theorem nums_getD (l : List Int) (i : Nat) (h : i < 8) : (nums l).getD i 0 = n16 l i := by
  rcases (show i = 0 ∨ i = 1 ∨ i = 2 ∨ i = 3 ∨ i = 4 ∨ i = 5 ∨ i = 6 ∨ i = 7 by omega) with rfl | rfl | rfl | rfl | rfl | rfl | rfl | rfl <;> rfl
theorem n16_back {l : List Int} (h : isB l) (j : Nat) : (if j % 2 = 0 then n16 l (j / 2) / 256 else n16 l (j / 2) % 256) = ar l j := by
  have h1 := ar_isB h (2 * (j / 2)); have h2 := ar_isB h (2 * (j / 2) + 1)
  unfold n16
  by_cases e : j % 2 = 0
  · rw [if_pos e]
    have : ar l (2 * (j / 2)) = ar l j := by rw [show 2 * (j / 2) = j by omega]
    omega
  · rw [if_neg e]
    have : ar l (2 * (j / 2) + 1) = ar l j := by rw [show 2 * (j / 2) + 1 = j by omega]
    omega
theorem join6_ok {l : List Int} (hB : isB l) (hl : l.length = 16) (f t : Nat) (hf : f ≤ t) (ht : t ≤ 8) (hz : ∀ i, f ≤ i → i < t → n16 l i = 0) : join6 ((nums l).take f) ((nums l).drop t) = l := by
  have l1 : ((nums l).take f).length = f := by rw [List.length_take, nums_len]; omega
  have l2 : ((nums l).drop t).length = 8 - t := by rw [List.length_drop, nums_len]
  unfold join6
  rw [l1, l2]
  refine ar_ext (putTo_len _ _ _ _) hl fun j hj => ?_
  rw [putTo_ar _ _ _ _ _ hj]
  by_cases h1 : t ≤ j / 2
  · rw [if_pos (by omega), show j / 2 - (8 - (8 - t)) = j / 2 - t by omega, List.getD_eq_getElem?_getD, List.getElem?_drop, show t + (j / 2 - t) = j / 2 by omega, ← List.getD_eq_getElem?_getD, nums_getD _ _ (by omega)]
    exact n16_back hB j
  · rw [if_neg (by omega), putTo_ar _ _ _ _ _ hj]
    by_cases h2 : j / 2 < f
    · rw [if_pos (by omega), Nat.sub_zero, List.getD_eq_getElem?_getD, List.getElem?_take, if_pos h2, ← List.getD_eq_getElem?_getD, nums_getD _ _ (by omega)]
      exact n16_back hB j
    · rw [if_neg (by omega)]
      have h0 := hz (j / 2) (by omega) (by omega)
      have := n16_back hB j
      rw [h0] at this
      rw [← this]
      have : ar (List.replicate 16 (0 : Int)) j = 0 := by rw [ar_at _ _ (by rw [List.length_replicate]; exact hj)]; exact List.getElem_replicate _
      rw [this]; split <;> rfl
theorem ar_nums (l : List Int) (i : Nat) (h : i < 8) : ar (nums l) i = n16 l i := nums_getD l i h
theorem read6_ok (k : Nat) (l : List Int) (hB : isB l) (hl : l.length = 16) (hk : 1000 ≤ k) : addr_read6.f k (txt6 l) = some (⟨16, l⟩, true) := by
  have h16 := nums16 hB
  have h3 := gapOf_ok (nums l)
  have ht : is16 ((nums l).take (gapOf (nums l)).1) := h16.sub fun n hn => List.mem_of_mem_take hn
  have hd : is16 ((nums l).drop ((gapOf (nums l)).1 + (gapOf (nums l)).2)) := h16.sub fun n hn => List.mem_of_mem_drop hn
  have hlen := txt6_len hB
  by_cases hg : (gapOf (nums l)).2 < 2
  · have e : txt6 l = wr (nums l) := by unfold txt6; simp only; rw [if_pos hg]
    rw [e] at hlen ⊢
    have c := read6_cases k (wr (nums l)) (wr (nums l)) [] false (nums l) [] true true (by omega) (dbl_cut_none _ (noDbl_wr _)) (half_ok k _ h16 (by rw [nums_len]; decide) hk) (half_ok k [] (fun n h => nomatch h) (by simp) hk) (by rw [nums_len]; decide) (by simp) h16 (fun n h => nomatch h) (by omega)
    rw [c, if_neg (by rw [nums_len]; decide)]
    have := join6_ok hB hl 8 8 (by decide) (by decide) (fun i h1 h2 => by omega)
    rw [List.take_of_length_le (by rw [nums_len]; decide), List.drop_of_length_le (by rw [nums_len]; decide)] at this
    rw [this]
  · have e : txt6 l = wr ((nums l).take (gapOf (nums l)).1) ++ 58 :: 58 :: wr ((nums l).drop ((gapOf (nums l)).1 + (gapOf (nums l)).2)) := by unfold txt6; simp only; rw [if_neg hg]
    rw [e] at hlen ⊢
    have c := read6_cases k (wr ((nums l).take (gapOf (nums l)).1) ++ 58 :: 58 :: wr ((nums l).drop ((gapOf (nums l)).1 + (gapOf (nums l)).2))) (wr ((nums l).take (gapOf (nums l)).1)) (wr ((nums l).drop ((gapOf (nums l)).1 + (gapOf (nums l)).2))) true ((nums l).take (gapOf (nums l)).1) ((nums l).drop ((gapOf (nums l)).1 + (gapOf (nums l)).2)) true true (by omega) (dbl_cut _ _ (noDbl_wr _)) (half_ok k _ ht (by rw [List.length_take, nums_len]; omega) hk) (half_ok k _ hd (by rw [List.length_drop, nums_len]; omega) hk) (by rw [List.length_take, nums_len]; omega) (by rw [List.length_drop, nums_len]; omega) ht hd (by omega)
    have hlen2 : ¬ 8 < ((nums l).take (gapOf (nums l)).1).length + ((nums l).drop ((gapOf (nums l)).1 + (gapOf (nums l)).2)).length := by rw [List.length_take, List.length_drop, nums_len]; omega
    rw [c, if_neg (by simp only [Bool.true_eq_false, false_or, false_and, or_false]; exact hlen2)]
    rw [join6_ok hB hl _ _ (by omega) h3.1 (fun i h1 h2 => by
      have := h3.2 (i - (gapOf (nums l)).1) (by omega)
      rw [show (gapOf (nums l)).1 + (i - (gapOf (nums l)).1) = i by omega, ar_nums _ _ (by omega)] at this
      exact this)]
/-! texts and addresses -/
def adrB (a : S_api_Addr) : Prop := isB a.B ∧ a.B.length = 16
theorem read4_l0 (x0 x1 x2 x3 : Int) (h0 : -1 ≤ x0 ∧ x0 < 256) (h1 : -1 ≤ x1 ∧ x1 < 256) (h2 : -1 ≤ x2 ∧ x2 < 256) (h3 : -1 ≤ x3 ∧ x3 < 256) (k : Nat) :
    addr_read4.l0 ([x0, x1, x2, x3], true) (k + 5) 0 (List.replicate 16 (0 : Int)) = some (.inl (⟨0, List.replicate 16 0⟩, false)) ∨ addr_read4.l0 ([x0, x1, x2, x3], true) (k + 5) 0 (List.replicate 16 (0 : Int)) = some (.inr [x0, x1, x2, x3, 0, 0, 0, 0, 0, 0, 0, 0, 0, 0, 0, 0]) ∧ isB [x0, x1, x2, x3, 0, 0, 0, 0, 0, 0, 0, 0, 0, 0, 0, 0] := by
  have r0 : rd [x0, x1, x2, x3] 0 = x0 := rfl
  have r1 : rd [x0, x1, x2, x3] 1 = x1 := rfl
  have r2 : rd [x0, x1, x2, x3] 2 = x2 := rfl
  have r3 : rd [x0, x1, x2, x3] 3 = x3 := rfl
  have w1 : IntKind.i64.wrap (0 + 1) = 1 := by decide
  have w2 : IntKind.i64.wrap (1 + 1) = 2 := by decide
  have w3 : IntKind.i64.wrap (2 + 1) = 3 := by decide
  by_cases g0 : x0 < 0
  · left; rw [addr_read4.l0, if_pos (by simp), if_pos (by simp), r0, if_pos (by simpa using g0)]
  · by_cases g1 : x1 < 0
    · left; rw [addr_read4.l0, if_pos (by simp), if_pos (by simp), r0, if_neg (by simp; omega), if_pos (by decide), w1,
        addr_read4.l0, if_pos (by simp), if_pos (by simp), r1, if_pos (by simpa using g1)]
    · by_cases g2 : x2 < 0
      · left; rw [addr_read4.l0, if_pos (by simp), if_pos (by simp), r0, if_neg (by simp; omega), if_pos (by decide), w1,
          addr_read4.l0, if_pos (by simp), if_pos (by simp), r1, if_neg (by simp; omega), if_pos (by decide), w2,
          addr_read4.l0, if_pos (by simp), if_pos (by simp), r2, if_pos (by simpa using g2)]
      · by_cases g3 : x3 < 0
        · left; rw [addr_read4.l0, if_pos (by simp), if_pos (by simp), r0, if_neg (by simp; omega), if_pos (by decide), w1,
            addr_read4.l0, if_pos (by simp), if_pos (by simp), r1, if_neg (by simp; omega), if_pos (by decide), w2,
            addr_read4.l0, if_pos (by simp), if_pos (by simp), r2, if_neg (by simp; omega), if_pos (by decide), w3,
            addr_read4.l0, if_pos (by simp), if_pos (by simp), r3, if_pos (by simpa using g3)]
        · right
          refine ⟨read4_go x0 x1 x2 x3 (by omega) (by omega) (by omega) (by omega) k, fun y hy => ?_⟩
          simp only [List.mem_cons, List.not_mem_nil, or_false] at hy
          omega
theorem four_of {l : List Int} (h : l.length = 4) : ∃ x0 x1 x2 x3, l = [x0, x1, x2, x3] := by
  match l, h with
  | [x0, x1, x2, x3], _ => exact ⟨x0, x1, x2, x3, rfl⟩
theorem read4_any (k : Nat) (s : List UInt8) (hs : s.length ≤ 10000000) (hk : s.length + 1000 < k) : ∃ a ok, addr_read4.f k s = some (a, ok) ∧ adrB a ∧ ((58 : UInt8) ∈ s → ok = false) := by
  unfold addr_read4.f
  have hz : adrB ⟨0, List.replicate 16 0⟩ := ⟨zeros_isB, by simp⟩
  rw [show (46 : Int) = (((46 : UInt8).toNat : Nat) : Int) from rfl, show (10 : Int) = ((10 : Nat) : Int) from rfl, show (256 : Int) = ((256 : Nat) : Int) from rfl]
  rcases parts_any k s 46 10 256 (by decide) (by decide) (by decide) (by decide) (by decide) hs (by omega) with h | ⟨d, x, h, h1, h2, _, h4⟩
  · rw [h, Option.bind_some, if_pos (by simp)]
    exact ⟨_, _, rfl, hz, fun _ => rfl⟩
  · rw [h, Option.bind_some]
    have hno : (58 : UInt8) ∉ s := fun hm => by
      rcases h4 58 hm with e | e | e
      · exact absurd e (by decide)
      · exact absurd e.2 (by decide)
      · exact absurd e.1 (by decide)
    by_cases hl : (d ++ [x]).length = 4
    · rw [if_neg (by simp at hl; simp [hl])]
      obtain ⟨x0, x1, x2, x3, e⟩ := four_of hl
      rw [e] at h2 ⊢
      obtain ⟨k, rfl⟩ : ∃ k', k = k' + 5 := ⟨k - 5, by omega⟩
      rcases read4_l0 x0 x1 x2 x3 (h2 _ (by simp)) (h2 _ (by simp)) (h2 _ (by simp)) (h2 _ (by simp)) k with q | ⟨q, qb⟩
      · rw [q, Option.bind_some]; exact ⟨_, _, rfl, hz, fun hm => absurd hm hno⟩
      · rw [q, Option.bind_some]; exact ⟨_, _, rfl, ⟨qb, rfl⟩, fun hm => absurd hm hno⟩
    · rw [if_pos (by simp at hl; simp; omega)]
      exact ⟨_, _, rfl, hz, fun _ => rfl⟩
def textA (a : S_api_Addr) : List UInt8 := if rightB a = true then (if a.Size = 4 then txt4 a.B else if a.Size = 16 then txt6 a.B else []) else []
theorem text_any (k : Nat) (a : S_api_Addr) (h : adrB a) (hk : 200 ≤ k) : addr_Text.f k a = some (textA a) := by
  unfold textA
  by_cases hr : rightB a = true
  · rw [if_pos hr]
    by_cases h4 : a.Size = 4
    · rw [if_pos h4]
      obtain ⟨k, rfl⟩ : ∃ k', k = k' + 20 := ⟨k - 20, by omega⟩
      exact text4_ok k a hr h4 h.1
    · rw [if_neg h4]
      unfold addr_Text.f
      obtain ⟨k, rfl⟩ : ∃ k', k = k' + 120 := ⟨k - 120, by omega⟩
      have r := right_ok (k + 100) a
      rw [show k + 100 + 20 = k + 120 by omega] at r
      rw [r, hr, Option.bind_some, if_neg (by simp), if_neg (by simpa using h4)]
      by_cases h16 : a.Size = 16
      · rw [if_pos (by simpa using h16), if_pos h16, text6_ok k a h.1]; rfl
      · rw [if_neg (by simpa using h16), if_neg h16]
  · rw [if_neg hr]
    unfold addr_Text.f
    obtain ⟨k, rfl⟩ : ∃ k', k = k' + 20 := ⟨k - 20, by omega⟩
    have : rightB a = false := by simpa using hr
    rw [right_ok, this, Option.bind_some, if_pos (by simp)]
theorem wr_ne (x : Int) (xs : List Int) : wr (x :: xs) ≠ [] := (txtL_head (base := 16) (by decide) (by decide) 58 58 (by decide) x.toNat (xs.map Int.toNat)).1
theorem txt6_colon (l : List Int) : (58 : UInt8) ∈ txt6 l := by
  unfold txt6
  simp only
  by_cases hg : (gapOf (nums l)).2 < 2
  · rw [if_pos hg]; unfold wr nums; simp [txtL]
  · rw [if_neg hg]; simp
theorem textA_len (a : S_api_Addr) (h : adrB a) : (textA a).length ≤ 1040 := by
  unfold textA
  split
  · split
    · exact txt4_len _ h.1
    · split
      · have := txt6_len h.1; omega
      · simp
  · simp
theorem right0 {a : S_api_Addr} (h : adrB a) (hr : rightB a = true) (h0 : a.Size = 0) : a = ⟨0, List.replicate 16 0⟩ := by
  have hz := ((rightB_iff a).1 hr).2
  have : a.B = List.replicate 16 0 := ar_ext h.2 (by simp) fun j hj => by
    rw [hz j (by rw [h0]; exact Nat.zero_le _) hj, ar_at _ _ (by rw [List.length_replicate]; exact hj)]; exact (List.getElem_replicate _).symm
  cases a
  simp only at h0 this
  rw [h0, this]
theorem parse_text (k : Nat) (a : S_api_Addr) (h : adrB a) (hr : rightB a = true) (hk : 3000 ≤ k) : addr_Parse.f k (textA a) = some (a, 0) := by
  have ht := text_any k a h (by omega)
  have hs := rightB_size hr
  have hl := textA_len a h
  unfold addr_Parse.f
  rw [bstr_toList, bstr_toList]
  rcases hs with h0 | h4 | h16
  · have e : textA a = [] := by unfold textA; rw [if_pos hr, if_neg (by omega), if_neg (by omega)]
    rw [e, if_pos (by decide)]
    rw [← right0 h hr h0]
  · have e : textA a = txt4 a.B := by unfold textA; rw [if_pos hr, if_pos h4]
    rw [e] at ht ⊢
    obtain ⟨k, rfl⟩ : ∃ k', k = k' + 1100 := ⟨k - 1100, by omega⟩
    rw [if_neg (by simpa using txt4_ne a.B h.1), read4_ok k a hr h4 h.1 h.2, Option.bind_some, if_neg (by simp), Option.bind_some]
    simp only
    rw [if_neg (by simp), ht, Option.bind_some, Option.bind_some, bstr_toList]
    simp
  · have e : textA a = txt6 a.B := by unfold textA; rw [if_pos hr, if_neg (by omega), if_pos h16]
    have hc := txt6_colon a.B
    rw [e] at ht hl ⊢
    have hne : txt6 a.B ≠ [] := fun e => by rw [e] at hc; cases hc
    obtain ⟨b, ok, q1, _, q2⟩ := read4_any k (txt6 a.B) (by omega) (by omega)
    have q2 := q2 hc
    subst q2
    rw [if_neg (by simpa using hne), q1, Option.bind_some, if_pos (by simp), read6_ok k a.B h.1 h.2 (by omega), Option.bind_some, Option.bind_some]
    simp only
    rw [← h16] at *
    rw [if_neg (by simp), ht, Option.bind_some, Option.bind_some, bstr_toList]
    simp
theorem parse_any (k : Nat) (s : List UInt8) (hs : s.length ≤ 10000000) (hk : s.length + 3000 < k) : ∃ a e, addr_Parse.f k s = some (a, e) ∧ adrB a ∧ (e = 0 ∧ textA a = s ∧ rightB a = true ∨ e = 4 ∧ a = ⟨0, List.replicate 16 0⟩ ∧ s ≠ []) := by
  have hz : adrB ⟨0, List.replicate 16 0⟩ := ⟨zeros_isB, by simp⟩
  unfold addr_Parse.f
  rw [bstr_toList, bstr_toList]
  by_cases h0 : s = []
  · subst h0
    rw [if_pos (by decide)]
    refine ⟨_, _, rfl, hz, .inl ⟨rfl, ?_, ?_⟩⟩
    · unfold textA; rw [if_pos (by decide), if_neg (by decide), if_neg (by decide)]
    · decide
  · rw [if_neg (by simpa using h0)]
    obtain ⟨a, o1, q1, z1, _⟩ := read4_any k s hs (by omega)
    obtain ⟨b, o2, q2, z2⟩ := read6_any k s hs (by omega)
    rw [q1, Option.bind_some]
    have fin : ∀ (c : S_api_Addr) (o : Bool), adrB c → ∃ a e, ((if (!o) = true then some (true : Bool) else (addr_Text.f k (⟨c.Size, c.B⟩ : S_api_Addr)).bind fun t33 => some (!((bstr t33).toList == s) : Bool))).bind (fun s24 => (if s24 = true then some (((⟨(0 : Int), (List.replicate 16 (0 : Int))⟩ : S_api_Addr) : S_api_Addr), ((4 : Int) : Int)) else some (((⟨c.Size, c.B⟩ : S_api_Addr) : S_api_Addr), ((0 : Int) : Int)))) = some (a, e) ∧ adrB a ∧ (e = 0 ∧ textA a = s ∧ rightB a = true ∨ e = 4 ∧ a = ⟨0, List.replicate 16 0⟩ ∧ s ≠ []) := by
      intro c o hc
      cases o with
      | false => rw [if_pos (by simp), Option.bind_some, if_pos rfl]; exact ⟨_, _, rfl, hz, .inr ⟨rfl, rfl, h0⟩⟩
      | true =>
        rw [if_neg (by simp), text_any k c hc (by omega), Option.bind_some, Option.bind_some, bstr_toList]
        by_cases e : textA c = s
        · rw [if_neg (by simpa using e)]
          refine ⟨_, _, rfl, hc, .inl ⟨rfl, e, ?_⟩⟩
          by_cases hr : rightB c = true
          · exact hr
          · unfold textA at e; rw [if_neg hr] at e; exact absurd e.symm h0
        · rw [if_pos (by simpa using e)]; exact ⟨_, _, rfl, hz, .inr ⟨rfl, rfl, h0⟩⟩
    cases o1 with
    | false => rw [if_pos (by simp), q2, Option.bind_some, Option.bind_some]; exact fin b o2 z2
    | true => rw [if_neg (by simp), Option.bind_some]; exact fin a true z1
theorem textA_inj {a b : S_api_Addr} (ha : adrB a) (hb : adrB b) (ra : rightB a = true) (rb : rightB b = true) (h : textA a = textA b) : a = b := by
  have h1 := parse_text 3000 a ha ra (Nat.le_refl _)
  have h2 := parse_text 3000 b hb rb (Nat.le_refl _)
  rw [h, h2] at h1
  exact ((Prod.mk.inj (Option.some.inj h1)).1).symm
/-! prefixes as texts -/
def preT (p : S_api_Prefix) : List UInt8 := if rightP p = true then textA p.Addr ++ 47 :: numD 10 p.Bits.toNat else []
theorem itoaN (n : Int) (h : 0 ≤ n ∧ n ≤ 1000000000000) : strconv_Itoa.f n = some (numD 10 n.toNat) := by
  unfold strconv_Itoa.f
  rw [if_pos (by omega), itoa_nat _ h.1, numD_dec]
theorem numD10_len (u : Nat) : (numD 10 u).length ≤ u + 1 := by rw [← numD_dec]; exact dec_len u
theorem rightP_range {p : S_api_Prefix} (h : rightP p = true) : rightB p.Addr = true ∧ 0 ≤ p.Bits ∧ p.Bits ≤ 128 := by
  unfold rightP at h
  rw [Bool.and_eq_true] at h
  have := cutOk_range h.1
  exact ⟨this.1, this.2.2.1, this.2.2.2.2⟩
theorem pretext_ok (k : Nat) (p : S_api_Prefix) (h : adrB p.Addr) (hk : 200 ≤ k) : addr_PrefixText.f k p = some (preT p) := by
  unfold addr_PrefixText.f preT
  obtain ⟨k', rfl⟩ : ∃ k', k = k' + 20 := ⟨k - 20, by omega⟩
  rw [rightP_ok k' p h.1 h.2, Option.bind_some]
  by_cases hr : rightP p = true
  · have hg := rightP_range hr
    have hl := textA_len p.Addr h
    have hn := numD10_len p.Bits.toNat
    rw [if_neg (by simp [hr]), if_pos hr, text_any _ p.Addr h hk, Option.bind_some, if_pos (by simp; omega), itoaN _ (by omega), Option.bind_some, if_pos (by simp; omega)]
    simp
  · rw [if_neg hr, if_pos (by simpa using hr)]
theorem txt4_no (l : List Int) (hB : isB l) : (47 : UInt8) ∉ txt4 l := by
  rw [txt4_txtL _ hB]; exact txtL_free (by decide) (by decide) 46 47 (by decide) (by decide) _
theorem wr_no (ns : List Int) : (47 : UInt8) ∉ wr ns := txtL_free (by decide) (by decide) 58 47 (by decide) (by decide) _
theorem txt6_no (l : List Int) : (47 : UInt8) ∉ txt6 l := by
  unfold txt6
  simp only
  by_cases hg : (gapOf (nums l)).2 < 2
  · rw [if_pos hg]; exact wr_no _
  · rw [if_neg hg]; simp [wr_no]
theorem textA_no (a : S_api_Addr) (h : adrB a) : (47 : UInt8) ∉ textA a := by
  unfold textA
  split
  · split
    · exact txt4_no _ h.1
    · split
      · exact txt6_no _
      · simp
  · simp
theorem preP_of {a : S_api_Addr} {x : Int} (h : adrB a) : isB (⟨a, x⟩ : S_api_Prefix).Addr.B ∧ (⟨a, x⟩ : S_api_Prefix).Addr.B.length = 16 := h
theorem parsepre_any (k : Nat) (s : List UInt8) (hs : s.length ≤ 10000000) (hk : s.length + 3000 < k) : ∃ p e, addr_ParsePrefix.f k s = some (p, e) ∧ adrB p.Addr ∧ (e = 0 ∧ preT p = s ∧ rightP p = true ∨ e = 4 ∧ p = ⟨⟨0, List.replicate 16 0⟩, 0⟩) := by
  have hz : adrB ⟨0, List.replicate 16 0⟩ := ⟨zeros_isB, by simp⟩
  unfold addr_ParsePrefix.f strings_Cut.f
  rw [if_pos (by omega), Option.bind_some, show (47 : Int) = (((47 : UInt8).toNat : Nat) : Int) from rfl, show (10 : Int) = ((10 : Nat) : Int) from rfl, show (256 : Int) = ((256 : Nat) : Int) from rfl]
  rcases first_of 47 s with hn | ⟨F, G, rfl, hF⟩
  · rw [cut_free hn]
    obtain ⟨a, e, q1, _, _⟩ := parse_any k s hs hk
    have q2 : ∃ r, addr_parts.f k [] (((47 : UInt8).toNat : Nat) : Int) ((10 : Nat) : Int) ((256 : Nat) : Int) = some r := by
      rcases parts_any k [] 47 10 256 (by decide) (by decide) (by decide) (by decide) (by decide) (by simp) (by simp; omega) with h | ⟨d, x, h, _⟩ <;> exact ⟨_, h⟩
    obtain ⟨r, q2⟩ := q2
    simp only [q1, q2, Option.bind_some]
    rw [if_pos (by simp)]
    exact ⟨_, _, rfl, hz, .inr ⟨rfl, rfl⟩⟩
  · rw [cut_app G hF]
    simp only [List.length_append, List.length_cons] at hs hk
    obtain ⟨a, e, q1, z1, q3⟩ := parse_any k F (by omega) (by omega)
    rcases parts_any k G 47 10 256 (by decide) (by decide) (by decide) (by decide) (by decide) (by omega) (by omega) with h | ⟨d, x, h, h1, h2, h3, h4⟩
    · simp only [q1, h, Option.bind_some]
      rw [if_pos (by simp)]
      exact ⟨_, _, rfl, hz, .inr ⟨rfl, rfl⟩⟩
    · simp only [q1, h, Option.bind_some]
      by_cases he : e = 0
      · by_cases hd : d = []
        · subst hd
          subst he
          simp only [List.nil_append]
          rw [if_neg (by simp), if_pos (by simp), Option.bind_some]
          have er : rd [x] 0 = x := rfl
          obtain ⟨k', rfl⟩ : ∃ k', k = k' + 20 := ⟨k - 20, by omega⟩
          rw [er, rightP_ok k' ⟨a, x⟩ z1.1 z1.2, Option.bind_some]
          by_cases hr : rightP ⟨a, x⟩ = true
          · rw [if_neg (by simp [hr])]
            refine ⟨_, _, rfl, z1, .inl ⟨rfl, ?_, hr⟩⟩
            have hg := rightP_range hr
            have ha : textA a = F := by
              rcases q3 with ⟨_, h, _⟩ | ⟨h, _⟩
              · exact h
              · exact absurd h (by decide)
            have hG : numD 10 x.toNat = G := by
              have := h3 rfl
              unfold curT at this
              rwa [if_neg (by simpa using hg.2.1)] at this
            unfold preT
            rw [if_pos hr]
            simp only
            rw [ha, hG]
          · rw [if_pos (by simpa using hr)]
            exact ⟨_, _, rfl, hz, .inr ⟨rfl, rfl⟩⟩
        · have : ¬ ((d ++ [x]).length : Int) = 1 := by
            have := List.length_pos_iff.2 hd
            simp; omega
          have c1 : (((d ++ [x]).length : Int) != 1) = true := by simp only [bne_iff_ne, ne_eq]; exact this
          rw [if_pos (by simp only [c1, ite_self])]
          · exact ⟨_, _, rfl, hz, .inr ⟨rfl, rfl⟩⟩
      · rw [if_pos (by simp [he])]
        exact ⟨_, _, rfl, hz, .inr ⟨rfl, rfl⟩⟩
theorem parsepre_text (k : Nat) (p : S_api_Prefix) (h : adrB p.Addr) (hr : rightP p = true) (hk : 3000 ≤ k) : addr_ParsePrefix.f k (preT p) = some (p, 0) := by
  have hg := rightP_range hr
  have hl := textA_len p.Addr h
  have hn := numD10_len p.Bits.toNat
  unfold addr_ParsePrefix.f strings_Cut.f preT
  rw [if_pos hr, if_pos (by simp; omega), Option.bind_some, cut_app _ (textA_no p.Addr h)]
  have q1 := parse_text k p.Addr h hg.1 hk
  have q2 := parts_f k 47 10 256 (by decide) (by decide) (by decide) (by decide) [p.Bits.toNat] (by simp) (by simp) (by simp; omega) (by simp only [txtL]; omega)
  simp only [txtL, List.map_cons, List.map_nil, show ((p.Bits.toNat : Nat) : Int) = p.Bits by omega] at q2
  rw [show (47 : Int) = (((47 : UInt8).toNat : Nat) : Int) from rfl, show (10 : Int) = ((10 : Nat) : Int) from rfl, show (256 : Int) = ((256 : Nat) : Int) from rfl]
  simp only [q1, q2, Option.bind_some]
  have er : rd [p.Bits] 0 = p.Bits := rfl
  obtain ⟨k', rfl⟩ : ∃ k', k = k' + 20 := ⟨k - 20, by omega⟩
  rw [if_neg (by simp), if_pos (by simp), Option.bind_some, er, rightP_ok k' ⟨p.Addr, p.Bits⟩ h.1 h.2, hr, Option.bind_some, if_neg (by simp)]
theorem tail_all_step (x : List Int) (n : Nat) (hn : n < 16) : ((arL 16 x).drop n).all (· == 0) = ((ar x n == 0) && ((arL 16 x).drop (n + 1)).all (· == 0)) := by
  have hl : n < (arL 16 x).length := by rw [arL_length]; exact hn
  rw [List.drop_eq_getElem_cons hl, List.all_cons]
  congr 2
  simp [arL]
theorem rright_l0 (a : S_api_Addr) : ∀ (m k n : Nat), n + m = 16 → m < k → (vineryref02_Right.l0 a k (n : Int)).bind (fun s14 => match s14 with | .inl r => some r | .inr _ => some ((true : Bool))) = some (((arL 16 a.B).drop n).all (· == 0))
  | 0, k, n, h, hk => by
    obtain ⟨k, rfl⟩ : ∃ k', k = k' + 1 := ⟨k - 1, by omega⟩
    rw [vineryref02_Right.l0, if_neg (by simp; omega), List.drop_of_length_le (by rw [arL_length]; omega)]
    rfl
  | m + 1, k, n, h, hk => by
    obtain ⟨k, rfl⟩ : ∃ k', k = k' + 1 := ⟨k - 1, by omega⟩
    have e : IntKind.i64.wrap ((n : Int) + 1) = ((n + 1 : Nat) : Int) := by rw [w64 _ (by omega)]; omega
    rw [vineryref02_Right.l0, if_pos (by simp; omega), if_pos (by omega), tail_all_step _ _ (by omega), Int.toNat_natCast, e]
    by_cases h0 : ar a.B n = 0
    · rw [if_neg (by simp [h0]), rright_l0 a m k (n + 1) (by omega) (by omega)]
      simp [h0]
    · rw [if_pos (by simp [h0])]
      simp [h0]
theorem rright_ok (k : Nat) (a : S_api_Addr) : vineryref02_Right.f (k + 20) a = some (rightB a) := by
  unfold vineryref02_Right.f
  by_cases h : a.Size = 0 ∨ a.Size = 4 ∨ a.Size = 16
  · have hc : ((if (a.Size != (0 : Int)) = true then (if (a.Size != (4 : Int)) = true then some (a.Size != (16 : Int) : Bool) else some (false : Bool)) else some (false : Bool))) = some false := by
      rcases h with h | h | h <;> simp [h]
    have hs : isSz a.Size = true := by unfold isSz; simp; omega
    rw [hc, Option.bind_some, if_neg (by simp)]
    have hn : ((a.Size.toNat : Nat) : Int) = a.Size := by omega
    have := rright_l0 a (16 - a.Size.toNat) (k + 20) a.Size.toNat (by omega) (by omega)
    rw [hn] at this
    unfold rightB
    rw [hs, Bool.true_and]
    exact this
  · have h0 : ¬ a.Size = 0 := by omega
    have h4 : ¬ a.Size = 4 := by omega
    have h16 : ¬ a.Size = 16 := by omega
    unfold rightB isSz
    simp [h0, h4, h16]
/-! the document's answers -/
theorem tdiv_nat (i n : Nat) : Int.tdiv (i : Int) (n : Int) = ((i / n : Nat) : Int) := rfl
theorem tmod_nat (i n : Nat) : Int.tmod (i : Int) (n : Int) = ((i % n : Nat) : Int) := rfl
theorem rbit_ok (a : S_api_Addr) (h : isB a.B) (i : Nat) (hi : i < 128) : vineryref02_bit.f a (i : Int) = some (bitL a.B i) := by
  unfold vineryref02_bit.f
  rw [show (8 : Int) = ((8 : Nat) : Int) from rfl, tdiv_nat, tmod_nat, w64 ((i / 8 : Nat) : Int) (by omega), w64 ((7 : Int) - ((i % 8 : Nat) : Int)) (by omega), if_pos (by omega), if_pos (by omega)]
  have hb := ar_isB h (i / 8)
  rw [Int.toNat_natCast, show ((7 : Int) - ((i % 8 : Nat) : Int)).toNat = 7 - i % 8 by omega, Nat.min_eq_left (by have : IntKind.u8.bits = 8 := rfl; omega)]
  unfold bitL
  have e : ar a.B (i / 8) = ((ar a.B (i / 8)).toNat : Int) := by omega
  have p2 : ((2 : Int) ^ (7 - i % 8)) = ((2 ^ (7 - i % 8) : Nat) : Int) := by simp
  rw [e, p2, Int.fdiv_eq_ediv_of_nonneg _ (Int.natCast_nonneg _), show (2 : Int) = ((2 : Nat) : Int) from rfl, ← Int.natCast_ediv, tmod_nat, Int.toNat_natCast, Nat.testBit_eq_decide_div_mod_eq]
  congr 1
  rw [Bool.eq_iff_iff, beq_iff_eq, decide_eq_true_eq]
  omega
theorem rp_go (p : S_api_Prefix) (h : isB p.Addr.B) (s : Nat) (hs : p.Addr.Size = (s : Int)) (h16 : s ≤ 16) : ∀ (m i k : Nat), i + m = 8 * s → m < k →
    ∃ r, (vineryref02_RightPrefix.l0 p k (i : Int)).bind (fun s16 => match s16 with | .inl r => some r | .inr _ => some ((true : Bool))) = some r ∧ (r = true ↔ ∀ j, i ≤ j → j < 8 * s → bitL p.Addr.B j = false)
  | 0, i, k + 1, hi, _ => by
    rw [vineryref02_RightPrefix.l0, hs, w64 _ (by omega), if_neg (by simp; omega)]
    exact ⟨true, rfl, by simp; omega⟩
  | m + 1, i, k + 1, hi, hk => by
    rw [vineryref02_RightPrefix.l0, hs, w64 (8 * (s : Int)) (by omega), if_pos (by simp; omega), rbit_ok _ h i (by omega), Option.bind_some]
    cases hb : bitL p.Addr.B i with
    | true =>
      rw [if_pos rfl]
      refine ⟨false, rfl, ?_⟩
      simp only [Bool.false_eq_true, false_iff, Classical.not_forall]
      exact ⟨i, by omega, by omega, by rw [hb]; simp⟩
    | false =>
      rw [if_neg (by simp), w64 _ (by omega), show (i : Int) + 1 = ((i + 1 : Nat) : Int) by omega]
      obtain ⟨r, hr, hiff⟩ := rp_go p h s hs h16 m (i + 1) k (by omega) (by omega)
      refine ⟨r, hr, hiff.trans ⟨fun q j h1 h2 => ?_, fun q j h1 h2 => q j (by omega) h2⟩⟩
      by_cases e : j = i
      · subst e; exact hb
      · exact q j (by omega) h2
theorem cut_self (l : List Int) (hl : l.length = 16) (hB : isB l) (b : Int) : cutL l b = l ↔ ∀ j : Nat, j < 128 → b ≤ (j : Int) → bitL l j = false := by
  constructor
  · intro e j h1 h2
    have := congrArg (fun l => bitL l j) e
    simp only [cut_bit _ _ _ h1] at this
    rw [← this, decide_eq_false (by omega), Bool.and_false]
  · intro h
    refine bits_ext (cutL_len _ _) hl (cutL_isB hB b) hB fun j hj => ?_
    rw [cut_bit _ _ _ hj]
    by_cases hb : (j : Int) < b
    · rw [decide_eq_true hb, Bool.and_true]
    · rw [h j hj (by omega)]; rfl
theorem right_bits {a : S_api_Addr} (h : rightB a = true) (j : Nat) (hj : j < 128) (hs : 8 * a.Size ≤ (j : Int)) : bitL a.B j = false := by
  have h2 := (rightB_iff a).1 h
  have hz := rightB_size h
  unfold bitL
  rw [h2.2 (j / 8) (by omega) (by omega)]
  simp
theorem rrp_ok (k : Nat) (p : S_api_Prefix) (h : isB p.Addr.B) (hl : p.Addr.B.length = 16) : vineryref02_RightPrefix.f (k + 150) p = some (rightP p) := by
  unfold vineryref02_RightPrefix.f
  rw [show k + 150 = (k + 130) + 20 by omega, rright_ok, Option.bind_some]
  by_cases h1 : rightB p.Addr = true
  · have hs := rightB_size h1
    rw [h1]
    simp only [Bool.not_true, Bool.false_eq_true, if_false]
    by_cases h2 : p.Addr.Size = 0
    · rw [if_pos (by simp [h2]), Option.bind_some, if_pos rfl]; simp [rightP, cutOk, h2]
    · rw [if_neg (by simpa using h2)]
      by_cases h3 : p.Bits < 0
      · rw [if_pos (by simpa using h3), Option.bind_some, if_pos rfl]; simp [rightP, cutOk]; omega
      · rw [if_neg (by simpa using h3), Option.bind_some, w64 _ (by omega)]
        by_cases h4 : p.Bits > 8 * p.Addr.Size
        · rw [if_pos (by simpa using h4)]; simp [rightP, cutOk]; omega
        · rw [if_neg (by simpa using h4)]
          obtain ⟨s, es⟩ : ∃ s : Nat, p.Addr.Size = (s : Int) := ⟨p.Addr.Size.toNat, by omega⟩
          obtain ⟨b, eb⟩ : ∃ b : Nat, p.Bits = (b : Int) := ⟨p.Bits.toNat, by omega⟩
          obtain ⟨r, hr, hiff⟩ := rp_go p h s es (by omega) (8 * s - b) b (k + 130 + 20) (by omega) (by omega)
          rw [← eb] at hr
          refine hr.trans ?_
          unfold rightP
          have c1 : cutOk p.Addr p.Bits = true := by simp [cutOk, h1, h2]; omega
          rw [c1, Bool.true_and, Option.some.injEq, Bool.eq_iff_iff, hiff, beq_iff_eq, cut_self _ hl h]
          refine ⟨fun q j h1' h2' => ?_, fun q j h1' h2' => q j (by omega) (by omega)⟩
          by_cases hj : j < 8 * s
          · exact q j (by omega) hj
          · exact right_bits h1 j h1' (by omega)
  · have : rightB p.Addr = false := by simpa using h1
    rw [this]
    simp [rightP, cutOk, this]
/-! the document's texts -/
theorem rdigs : ∀ d : Fin 16, ((([48, 49, 50, 51, 52, 53, 54, 55, 56, 57, 97, 98, 99, 100, 101, 102] : List UInt8).take (d.val + 1)).drop d.val) = [dgt d.val] := by decide
theorem rdig (d : Nat) (h : d < 16) : ((([48, 49, 50, 51, 52, 53, 54, 55, 56, 57, 97, 98, 99, 100, 101, 102] : List UInt8).take (Int.toNat (IntKind.i64.wrap ((d : Int) + 1)))).drop (Int.toNat (d : Int))) = [dgt d] := by
  rw [w64 _ (by omega), show Int.toNat ((d : Int) + 1) = d + 1 by omega, Int.toNat_natCast]
  exact rdigs ⟨d, h⟩
theorem number_ok (base : Nat) (hb2 : 2 ≤ base) (hb : base ≤ 16) : ∀ (u k : Nat), u < 4611686018427387904 → (numD base u).length ≤ k → (numD base u).length ≤ 1000 → vineryref02_Number.f k (u : Int) (base : Int) = some (numD base u) := by
  intro u
  induction u using Nat.strongRecOn with
  | ind u ih =>
    intro k hu hk h1000
    have hl := numD_len hb2 u
    obtain ⟨k, rfl⟩ : ∃ k', k = k' + 1 := ⟨k - 1, by omega⟩
    rw [vineryref02_Number.f]
    by_cases hs : u < base
    · rw [if_pos (by simp; omega), if_pos (by rw [w64 _ (by omega)]; simp; omega), rdig u (by omega), numD_small hs]
    · have hbig := numD_big (base := base) (u := u) (by omega) hb2
      have hbl : (numD base u).length = (numD base (u / base)).length + 1 := by rw [hbig]; simp
      have hq : u / base < u := Nat.div_lt_self (by omega) (by omega)
      have hm := Nat.mod_lt u (show 0 < base by omega)
      have key : ∀ Q : Nat, Q < 4611686018427387904 → IntKind.i64.wrap (Q : Int) = (Q : Int) := fun Q h => w64 _ (by omega)
      have e1 : IntKind.i64.wrap (Int.tdiv (u : Int) (base : Int)) = ((u / base : Nat) : Int) := by
        rw [← Int.ofNat_tdiv]; exact key _ (by omega)
      have e2 : Int.tmod (u : Int) (base : Int) = ((u % base : Nat) : Int) := (Int.ofNat_tmod u base).symm
      have e3 : IntKind.i64.wrap (((u % base : Nat) : Int) + 1) = ((u % base + 1 : Nat) : Int) := by rw [w64 _ (by omega)]; omega
      rw [if_neg (by simp; omega), if_pos (by omega), e1, ih (u / base) hq k (by omega) (by omega) (by omega), Option.bind_some, if_pos (by omega), if_pos (by omega), e2, rdig _ (by omega), e3, if_pos (by simp; omega), if_pos (by simp; omega), hbig]
theorem numD_le64 (base : Nat) (hb2 : 2 ≤ base) : ∀ (n u : Nat), u < 2 ^ n → (numD base u).length ≤ n + 1 := by
  intro n
  induction n with
  | zero =>
    intro u h
    rw [numD_small (by omega)]; simp
  | succ n ih =>
    intro u h
    by_cases hs : u < base
    · rw [numD_small hs]; simp
    · rw [numD_big (by omega) hb2]
      have hd : u / base ≤ u / 2 := Nat.div_le_div_left hb2 (by decide)
      have := ih (u / base) (by rw [Nat.pow_succ] at h; omega)
      simp; omega
theorem number64 (base : Nat) (hb2 : 2 ≤ base) (hb : base ≤ 16) (n : Int) (h : 0 ≤ n ∧ n < 4294967296) (k : Nat) (hk : 40 ≤ k) : vineryref02_Number.f k n (base : Int) = some (numD base n.toNat) := by
  have hl := numD_le64 base hb2 32 n.toNat (by omega)
  have := number_ok base hb2 hb n.toNat k (by omega) (by omega) (by omega)
  rwa [show ((n.toNat : Nat) : Int) = n by omega] at this
theorem six_l0 (a : S_api_Addr) (hB : isB a.B) : ∀ (m i k : Nat) (out : List Int), i + m = 8 → m < k → out = (nums a.B).take i → vineryref02_six.l0 a k out ((2 * i : Nat) : Int) = some (nums a.B)
  | 0, i, k, out, hi, hk, ho => by
    obtain ⟨k, rfl⟩ : ∃ k', k = k' + 1 := ⟨k - 1, by omega⟩
    rw [vineryref02_six.l0, if_neg (by simp; omega), ho, List.take_of_length_le (by rw [nums_len]; omega)]
  | m + 1, i, k, out, hi, hk, ho => by
    obtain ⟨k, rfl⟩ : ∃ k', k = k' + 1 := ⟨k - 1, by omega⟩
    have h1 := ar_isB hB (2 * i); have h2 := ar_isB hB (2 * i + 1)
    have e1 : IntKind.i64.wrap (((2 * i : Nat) : Int) + 1) = ((2 * i + 1 : Nat) : Int) := by rw [w64 _ (by omega)]; omega
    have e2 : IntKind.i64.wrap (((2 * i : Nat) : Int) + 2) = ((2 * (i + 1) : Nat) : Int) := by rw [w64 _ (by omega)]; omega
    have en : IntKind.i64.wrap ((IntKind.i64.wrap ((IntKind.i64.wrap (ar a.B (2 * i))) * 256)) + (IntKind.i64.wrap (ar a.B (2 * i + 1)))) = n16 a.B i := by
      rw [w64 (ar a.B (2 * i)) (by omega), w64 (ar a.B (2 * i + 1)) (by omega), w64 (ar a.B (2 * i) * 256) (by omega), w64 _ (by omega)]; rfl
    have hol : out.length = i := by rw [ho, List.length_take, nums_len]; omega
    rw [vineryref02_six.l0, if_pos (by simp; omega), if_pos (by omega), e1, e2, if_pos (by omega), Int.toNat_natCast, Int.toNat_natCast, en, if_pos (by simp; omega)]
    refine six_l0 a hB m (i + 1) k _ (by omega) (by omega) ?_
    have hi8 : i < (nums a.B).length := by rw [nums_len]; omega
    rw [ho, List.take_add_one, List.getElem?_eq_getElem hi8]
    congr 1
    have : (nums a.B)[i] = n16 a.B i := by
      have := nums_getD a.B i (by omega)
      rwa [List.getD_eq_getElem?_getD, List.getElem?_eq_getElem hi8] at this
    rw [this]; rfl
theorem rd_nums (l : List Int) (i : Nat) (h : i < 8) : rd (nums l) (i : Int) = n16 l i := by
  have hi8 : i < (nums l).length := by rw [nums_len]; omega
  rw [rd_at _ _ hi8]
  have := nums_getD l i h
  rwa [List.getD_eq_getElem?_getD, List.getElem?_eq_getElem hi8] at this
theorem six_l3 (l : List Int) : ∀ (m p k : Nat), p + m = 8 → m < k → vineryref02_six.l3 (nums l) k (p : Int) = some ((p + zr (nums l) m p : Nat) : Int)
  | 0, p, k, h, hk => by
    obtain ⟨k, rfl⟩ : ∃ k', k = k' + 1 := ⟨k - 1, by omega⟩
    rw [vineryref02_six.l3, if_neg (by simp; omega), Option.bind_some, if_neg (by simp)]; rfl
  | m + 1, p, k, h, hk => by
    obtain ⟨k, rfl⟩ : ∃ k', k = k' + 1 := ⟨k - 1, by omega⟩
    have e3 : IntKind.i64.wrap ((p : Int) + 1) = ((p + 1 : Nat) : Int) := by rw [w64 _ (by omega)]; omega
    rw [vineryref02_six.l3, if_pos (by simp; omega), if_pos (by rw [nums_len]; omega), Option.bind_some, rd_nums _ _ (by omega), e3, zr, ar_nums _ _ (by omega)]
    by_cases h0 : n16 l p = 0
    · rw [if_pos (by simpa using h0), if_pos h0, six_l3 l m (p + 1) k (by omega) (by omega)]
      congr 1; omega
    · rw [if_neg (by simpa using h0), if_neg h0]; rfl
theorem six_l1 (K : Nat) (hK : 9 ≤ K) (l : List Int) : ∀ (m i k : Nat) (g : Nat × Nat), i + m = 8 → m < k → vineryref02_six.l1 K (nums l) k (g.1 : Int) (g.2 : Int) (i : Int) = some (((gapGo (nums l) m i g).1 : Int), ((gapGo (nums l) m i g).2 : Int))
  | 0, i, k, g, h, hk => by
    obtain ⟨k, rfl⟩ : ∃ k', k = k' + 1 := ⟨k - 1, by omega⟩
    rw [vineryref02_six.l1, if_neg (by simp; omega)]; rfl
  | m + 1, i, k, g, h, hk => by
    obtain ⟨k, rfl⟩ : ∃ k', k = k' + 1 := ⟨k - 1, by omega⟩
    have e3 : IntKind.i64.wrap ((i : Int) + 1) = ((i + 1 : Nat) : Int) := by rw [w64 _ (by omega)]; omega
    have h1 := six_l3 l (8 - i) i K (by omega) (by omega)
    have hz := zr_le (nums l) (8 - i) i
    have e4 : IntKind.i64.wrap (((i + zr (nums l) (8 - i) i : Nat) : Int) - (i : Int)) = ((zr (nums l) (8 - i) i : Nat) : Int) := by rw [w64 _ (by omega)]; omega
    rw [vineryref02_six.l1, if_pos (by simp; omega), h1, Option.bind_some, e3, e4, gapGo]
    by_cases hg : g.2 < zr (nums l) (8 - i) i
    · rw [if_pos (by simpa using hg), if_pos hg]
      exact six_l1 K hK l m (i + 1) k (i, zr (nums l) (8 - i) i) (by omega) (by omega)
    · rw [if_neg (by simpa using hg), if_neg hg]
      exact six_l1 K hK l m (i + 1) k g (by omega) (by omega)
/-- what one more number adds -/
def putH (s h : List UInt8) : List UInt8 := if s ≠ [] ∧ s.getLast? ≠ some 58 then s ++ 58 :: h else s ++ h
def putAll (s : List UInt8) (us : List Nat) : List UInt8 := us.foldl (fun s u => putH s (numD 16 u)) s
theorem last_hex (s : List UInt8) (u : Nat) : (s ++ numD 16 u) ≠ [] ∧ (s ++ numD 16 u).getLast? ≠ some 58 := by
  have h1 := numD_ne (base := 16) (by decide) u
  refine ⟨by simp [h1], fun h => ?_⟩
  rw [List.getLast?_append] at h
  cases hx : (numD 16 u).getLast? with
  | none => exact h1 (List.getLast?_eq_none_iff.1 hx)
  | some x =>
    rw [hx] at h
    have e : x = 58 := by simpa using h
    subst e
    exact numD_free (by decide) (by decide) u 58 (by decide) (List.mem_of_getLast? hx)
theorem putAll_mid : ∀ (us : List Nat) (s : List UInt8), s ≠ [] → s.getLast? ≠ some 58 → putAll s us = s ++ (if us = [] then [] else 58 :: txtL 16 58 us)
  | [], s, _, _ => by simp [putAll]
  | u :: us, s, h1, h2 => by
    have h3 := last_hex (s ++ [58]) u
    have e : putH s (numD 16 u) = s ++ [58] ++ numD 16 u := by unfold putH; rw [if_pos ⟨h1, h2⟩]; simp
    have := putAll_mid us _ h3.1 h3.2
    rw [if_neg (by simp)]
    show putAll (putH s (numD 16 u)) us = _
    rw [e, this]
    cases us with
    | nil => simp [txtL]
    | cons v us => simp [txtL]
theorem putAll_ok (us : List Nat) (s : List UInt8) (h : s = [] ∨ s.getLast? = some 58) : putAll s us = s ++ txtL 16 58 us := by
  cases us with
  | nil => simp [putAll, txtL]
  | cons u us =>
    have h3 := last_hex s u
    have e : putH s (numD 16 u) = s ++ numD 16 u := by
      unfold putH
      rw [if_neg (fun hh => h.elim hh.1 hh.2)]
    have := putAll_mid us _ h3.1 h3.2
    show putAll (putH s (numD 16 u)) us = _
    rw [e, this]
    cases us with
    | nil => simp [txtL]
    | cons v us => simp [txtL]
theorem bsize (s : List UInt8) : (bstr s).size = s.length := rfl
theorem six_put (K : Nat) (hK : 40 ≤ K) (l : List Int) (hB : isB l) (f t : Int) (k i : Nat) (hi : i < 8) (s : List UInt8) (hs : s.length ≤ 1000) (hg : ¬ (1 < t ∧ (i : Int) = f)) :
    vineryref02_six.l2 K (nums l) (f, t) (k + 1) s (i : Int) = vineryref02_six.l2 K (nums l) (f, t) k (putH s (numD 16 (n16 l i).toNat)) ((i + 1 : Nat) : Int) := by
  have hn := n16_lt hB i
  have e3 : IntKind.i64.wrap ((i : Int) + 1) = ((i + 1 : Nat) : Int) := by rw [w64 _ (by omega)]; omega
  have hh := number64 16 (by decide) (by decide) (n16 l i) (by omega) K hK
  have hl := numD16_len (n16 l i).toNat (by omega)
  rw [vineryref02_six.l2, if_pos (by simp; omega)]
  have c1 : ¬ ((if (decide (t > (1 : Int))) = true then ((i : Int) == f) else false) = true) := by
    intro h
    by_cases h1 : 1 < t
    · simp [h1] at h; exact hg ⟨h1, h⟩
    · simp [h1] at h
  simp only
  rw [if_neg c1, bstr_toList, bstr_toList, bsize]
  have c2 : (((if (!(s == ([] : List UInt8))) = true then (if 0 ≤ (IntKind.i64.wrap ((s.length : Int) - (1 : Int))) ∧ (IntKind.i64.wrap ((s.length : Int) - (1 : Int))) < (s.length : Int) then some (((s.getD (Int.toNat (IntKind.i64.wrap ((s.length : Int) - (1 : Int)))) 0).toNat : Int) != (58 : Int) : Bool) else none) else some (false : Bool))).bind fun s52 => (if s52 = true then (if (s ++ ([58] : List UInt8)).length ≤ 9223372036854775807 then some (s ++ ([58] : List UInt8) : List UInt8) else none) else some (s : List UInt8))) = some (if s ≠ [] ∧ s.getLast? ≠ some 58 then s ++ [58] else s) := by
    by_cases h0 : s = []
    · subst h0; simp
    · have hp := List.length_pos_iff.2 h0
      have e1 : IntKind.i64.wrap ((s.length : Int) - 1) = ((s.length - 1 : Nat) : Int) := by rw [w64 _ (by omega)]; omega
      have eL : s.getLast? = some (s.getD (s.length - 1) 0) := by
        rw [List.getLast?_eq_getElem?, List.getD_eq_getElem?_getD, List.getElem?_eq_getElem (by omega)]; rfl
      rw [e1, if_pos (by simpa using h0), if_pos (by omega), Option.bind_some, Int.toNat_natCast]
      by_cases hL : s.getD (s.length - 1) 0 = 58
      · have : ¬ (s ≠ [] ∧ s.getLast? ≠ some 58) := fun h => h.2 (by rw [eL, hL])
        rw [hL, if_neg (by decide), if_neg this]
      · have h2 : (((s.getD (s.length - 1) 0).toNat : Int) != 58) = true := by
          simp only [bne_iff_ne, ne_eq]
          intro e
          exact hL (UInt8.toNat_inj.1 (by have : (s.getD (s.length - 1) 0).toNat = 58 := by omega
                                          rw [this]; rfl))
        have : s ≠ [] ∧ s.getLast? ≠ some 58 := ⟨h0, by rw [eL]; simpa using hL⟩
        rw [if_pos h2, if_pos (by simp; omega), if_pos this]
  rw [c2, Option.bind_some, if_pos (by rw [nums_len]; omega), rd_nums _ _ hi, show (16 : Int) = ((16 : Nat) : Int) from rfl, hh, Option.bind_some, e3]
  have e5 : (if s ≠ [] ∧ s.getLast? ≠ some 58 then s ++ [58] else s) ++ numD 16 (n16 l i).toNat = putH s (numD 16 (n16 l i).toNat) := by
    unfold putH
    split <;> simp
  rw [e5, if_pos]
  unfold putH
  split <;> simp <;> omega
theorem putH_len (s h : List UInt8) : (putH s h).length ≤ s.length + h.length + 1 := by
  unfold putH; split <;> simp <;> omega
theorem six_run (K : Nat) (hK : 40 ≤ K) (l : List Int) (hB : isB l) (f t : Int) : ∀ (m i k : Nat) (s : List UInt8), i + m ≤ 8 → s.length + 5 * m ≤ 900 → (∀ j : Nat, i ≤ j → j < i + m → ¬ (1 < t ∧ (j : Int) = f)) →
    vineryref02_six.l2 K (nums l) (f, t) (k + m) s (i : Int) = vineryref02_six.l2 K (nums l) (f, t) k (putAll s ((((nums l).drop i).take m).map Int.toNat)) ((i + m : Nat) : Int)
  | 0, i, k, s, _, _, _ => by simp [putAll]
  | m + 1, i, k, s, hi, hs, hg => by
    have hn := n16_lt hB i
    have hl := numD16_len (n16 l i).toNat (by omega)
    have hp := putH_len s (numD 16 (n16 l i).toNat)
    rw [show k + (m + 1) = k + m + 1 by omega, six_put K hK l hB f t (k + m) i (by omega) s (by omega) (hg i (by omega) (by omega)), six_run K hK l hB f t m (i + 1) k _ (by omega) (by omega) (fun j h1 h2 => hg j (by omega) (by omega))]
    have hi8 : i < (nums l).length := by rw [nums_len]; omega
    have e : (nums l)[i] = n16 l i := by
      have := nums_getD l i (by omega)
      rwa [List.getD_eq_getElem?_getD, List.getElem?_eq_getElem hi8] at this
    rw [List.drop_eq_getElem_cons hi8, List.take_succ_cons, List.map_cons, e, show i + 1 + m = i + (m + 1) by omega]
    rfl
theorem rsix_ok (k : Nat) (a : S_api_Addr) (hB : isB a.B) (hk : 100 ≤ k) : vineryref02_six.f k a = some (txt6 a.B) := by
  unfold vineryref02_six.f
  have h0 := six_l0 a hB 8 0 k [] rfl (by omega) (by simp)
  have h1 := six_l1 k (by omega) a.B 8 0 k (0, 0) rfl (by omega)
  have h3 := gapOf_ok (nums a.B)
  have h16 := nums16 hB
  simp only [Nat.mul_zero, show ((0 : Nat) : Int) = 0 from rfl] at h0 h1
  rw [h0, Option.bind_some, h1, Option.bind_some]
  rw [show gapGo (nums a.B) 8 0 (0, 0) = gapOf (nums a.B) from rfl]
  unfold txt6
  simp only
  by_cases hg : (gapOf (nums a.B)).2 < 2
  · rw [if_pos hg]
    obtain ⟨k', rfl⟩ : ∃ k', k = k' + 1 + 8 := ⟨k - 9, by omega⟩
    have r := six_run (k' + 1 + 8) (by omega) a.B hB (((gapOf (nums a.B)).1 : Nat) : Int) (((gapOf (nums a.B)).2 : Nat) : Int) 8 0 (k' + 1) [] (by decide) (by decide) (fun j _ _ h => by omega)
    simp only [show ((0 : Nat) : Int) = 0 from rfl] at r
    rw [r, vineryref02_six.l2, if_neg (by decide), Option.bind_some, List.drop_zero, List.take_of_length_le (by rw [nums_len]; decide), putAll_ok _ _ (.inl rfl)]
    rfl
  · rw [if_neg hg]
    generalize hf : (gapOf (nums a.B)).1 = f at *
    generalize ht : (gapOf (nums a.B)).2 = t at *
    obtain ⟨k', rfl⟩ : ∃ k', k = k' + 1 + (8 - (f + t)) + 1 + f := ⟨k - 1 - (8 - (f + t)) - 1 - f, by omega⟩
    have l1 := wr_len ((nums a.B).take f) (h16.sub fun n hn => List.mem_of_mem_take hn)
    rw [List.length_take, nums_len] at l1
    have r := six_run (k' + 1 + (8 - (f + t)) + 1 + f) (by omega) a.B hB (f : Int) (t : Int) f 0 (k' + 1 + (8 - (f + t)) + 1) [] (by omega) (by simp; omega) (fun j _ h2 h => by omega)
    simp only [show ((0 : Nat) : Int) = 0 from rfl, List.drop_zero, Nat.zero_add] at r
    have ew : putAll [] (((nums a.B).take f).map Int.toNat) = wr ((nums a.B).take f) := by rw [putAll_ok _ _ (.inl rfl)]; rfl
    rw [r, ew, vineryref02_six.l2, if_pos (by simp; omega)]
    have e4 : IntKind.i64.wrap ((IntKind.i64.wrap ((IntKind.i64.wrap ((f : Int) + (t : Int))) - 1)) + 1) = ((f + t : Nat) : Int) := by
      rw [w64 ((f : Int) + t) (by omega), w64 ((f : Int) + t - 1) (by omega), w64 _ (by omega)]; omega
    simp only
    rw [if_pos (by simp; omega), if_pos (by simp; omega), e4]
    have e6 : ((nums a.B).drop (f + t)).take (8 - (f + t)) = (nums a.B).drop (f + t) := List.take_of_length_le (by rw [List.length_drop, nums_len]; omega)
    have r2 := six_run (k' + 1 + (8 - (f + t)) + 1 + f) (by omega) a.B hB (f : Int) (t : Int) (8 - (f + t)) (f + t) (k' + 1) (wr ((nums a.B).take f) ++ [58, 58]) (by omega) (by simp; omega) (fun j h1 h2 h => by omega)
    rw [r2, show f + t + (8 - (f + t)) = 8 by omega, vineryref02_six.l2, if_neg (by decide), Option.bind_some, putAll_ok _ _ (.inr (by simp)), e6]
    simp [wr]
theorem txt4_numD (l : List Int) (hB : isB l) : txt4 l = numD 10 (ar l 0).toNat ++ 46 :: (numD 10 (ar l 1).toNat ++ 46 :: (numD 10 (ar l 2).toNat ++ 46 :: numD 10 (ar l 3).toNat)) := by
  rw [txt4_eq, itoa_nat _ (ar_isB hB 0).1, itoa_nat _ (ar_isB hB 1).1, itoa_nat _ (ar_isB hB 2).1, itoa_nat _ (ar_isB hB 3).1, numD_dec, numD_dec, numD_dec, numD_dec]
theorem dec3 (n : Int) (h : 0 ≤ n ∧ n ≤ 255) : (numD 10 n.toNat).length ≤ 3 := by
  have step : ∀ v, (numD 10 v).length ≤ (numD 10 (v / 10)).length + 1 := fun v => by
    by_cases hv : v < 10
    · rw [numD_small hv]; simp
    · rw [numD_big (base := 10) (u := v) (by omega) (by decide)]; simp
  have a := step n.toNat; have b := step (n.toNat / 10)
  have c : (numD 10 (n.toNat / 10 / 10)).length ≤ 1 := by rw [numD_small (by omega)]; simp
  omega
theorem rtext_any (k : Nat) (a : S_api_Addr) (h : adrB a) (hk : 200 ≤ k) : vineryref02_Text.f k a = some (textA a) := by
  obtain ⟨k, rfl⟩ : ∃ k', k = k' + 20 := ⟨k - 20, by omega⟩
  unfold vineryref02_Text.f textA
  rw [rright_ok, Option.bind_some]
  by_cases hr : rightB a = true
  · rw [if_pos hr, hr]
    rcases rightB_size hr with h0 | h4 | h16
    · rw [if_neg (by simp), h0, Option.bind_some, if_pos (by decide), if_neg (by decide), if_neg (by decide)]
    · rw [if_neg (by simp), h4, Option.bind_some, if_neg (by decide), if_neg (by decide), if_pos rfl]
      have b0 := ar_isB h.1 0; have b1 := ar_isB h.1 1; have b2 := ar_isB h.1 2; have b3 := ar_isB h.1 3
      have d0 := dec3 _ b0; have d1 := dec3 _ b1; have d2 := dec3 _ b2; have d3 := dec3 _ b3
      have nn : ∀ i, vineryref02_Number.f (k + 20) (IntKind.i64.wrap (ar a.B i)) (10 : Int) = some (numD 10 (ar a.B i).toNat) := fun i => by
        have := ar_isB h.1 i
        rw [w64 _ (by omega)]
        exact number64 10 (by decide) (by decide) _ (by omega) _ (by omega)
      have w1 : IntKind.i64.wrap (1 + 1) = 2 := by decide
      have w2 : IntKind.i64.wrap (2 + 1) = 3 := by decide
      have w3 : IntKind.i64.wrap (3 + 1) = 4 := by decide
      have t1 : Int.toNat 1 = 1 := rfl
      have t2 : Int.toNat 2 = 2 := rfl
      have t3 : Int.toNat 3 = 3 := rfl
      have step : ∀ (q : Nat) (s : List UInt8) (i : Nat), 1 ≤ i → i < 4 → s.length ≤ 100 → vineryref02_Text.l0 (k + 20) a (q + 1) s (i : Int) = vineryref02_Text.l0 (k + 20) a q (s ++ [46] ++ numD 10 (ar a.B i).toNat) ((i + 1 : Nat) : Int) := by
        intro q s i h1 h4 hs
        have d := dec3 _ (ar_isB h.1 i)
        have e3 : IntKind.i64.wrap ((i : Int) + 1) = ((i + 1 : Nat) : Int) := by rw [w64 _ (by omega)]; omega
        rw [vineryref02_Text.l0, if_pos (by simp; omega), if_pos (by simp; omega), if_pos (by omega), Int.toNat_natCast, nn i, Option.bind_some, if_pos (by simp; omega), e3]
      have s1 := step (k + 19) (numD 10 (ar a.B 0).toNat) 1 (by decide) (by decide) (by omega)
      have s2 := step (k + 18) (numD 10 (ar a.B 0).toNat ++ [46] ++ numD 10 (ar a.B 1).toNat) 2 (by decide) (by decide) (by simp; omega)
      have s3 := step (k + 17) (numD 10 (ar a.B 0).toNat ++ [46] ++ numD 10 (ar a.B 1).toNat ++ [46] ++ numD 10 (ar a.B 2).toNat) 3 (by decide) (by decide) (by simp; omega)
      simp only [show ((1 : Nat) : Int) = 1 from rfl, show k + 19 + 1 = k + 20 from rfl] at s1
      rw [nn 0, Option.bind_some, s1, s2, s3, vineryref02_Text.l0, if_neg (by decide), Option.bind_some, txt4_numD _ h.1]
      simp
    · rw [if_neg (by simp), h16, Option.bind_some, if_neg (by decide), if_pos (by decide), if_neg (by decide), if_pos rfl, rsix_ok _ a h.1 (by omega)]; rfl
  · have : rightB a = false := by simpa using hr
    rw [if_neg hr, this, if_pos (by simp), Option.bind_some, if_pos rfl]
/-! texts that the document reads -/
theorem rsplit_go (c : UInt8) (s : List UInt8) (hs : s.length ≤ 10000000) : ∀ (n i k : Nat) (out : List (List UInt8)) (cur : List UInt8), i + n = s.length → n < k → out.length ≤ i → cur.length ≤ i →
    vineryref02_split.l0 s (c.toNat : Int) k (out ++ [cur]) (i : Int) = some (out ++ (match spl c (s.drop i) with | [] => [] | y :: ys => (cur ++ y) :: ys))
  | 0, i, k, out, cur, hi, hk, ho, hc => by
    obtain ⟨k, rfl⟩ : ∃ k', k = k' + 1 := ⟨k - 1, by omega⟩
    rw [vineryref02_split.l0, if_neg (by rw [bsize]; simp; omega), List.drop_of_length_le (by omega)]
    simp [spl]
  | n + 1, i, k, out, cur, hi, hk, ho, hc => by
    obtain ⟨k, rfl⟩ : ∃ k', k = k' + 1 := ⟨k - 1, by omega⟩
    have hil : i < s.length := by omega
    have e3 : IntKind.i64.wrap ((i : Int) + 1) = ((i + 1 : Nat) : Int) := by rw [w64 _ (by omega)]; omega
    have el : IntKind.i64.wrap (((out ++ [cur]).length : Int) - 1) = ((out.length : Nat) : Int) := by rw [w64 _ (by simp; omega)]; simp
    have eg : s.getD i 0 = s[i] := by rw [List.getD_eq_getElem?_getD, List.getElem?_eq_getElem hil]; rfl
    have er : rd (out ++ [cur]) ((out.length : Nat) : Int) = cur := by unfold rd; rw [Int.toNat_natCast, List.getD_eq_getElem?_getD]; simp
    have es : (s.take (Int.toNat ((i + 1 : Nat) : Int))).drop i = [s[i]] := by
      rw [Int.toNat_natCast, List.take_add_one, List.getElem?_eq_getElem hil]
      rw [List.drop_append_of_le_length (by rw [List.length_take]; omega), List.drop_of_length_le (by rw [List.length_take]; omega)]; rfl
    rw [vineryref02_split.l0, if_pos (by rw [bsize]; simp; omega), if_pos (by omega), Int.toNat_natCast, eg, List.drop_eq_getElem_cons hil, spl]
    by_cases h : s[i] = c
    · rw [if_pos (by simp [h]), if_pos h, if_pos (by simp; omega), e3, rsplit_go c s hs n (i + 1) k (out ++ [cur]) [] (by omega) (by omega) (by simp; omega) (by simp)]
      obtain ⟨y, ys, e⟩ := spl_pos c (s.drop (i + 1))
      rw [e]; simp
    · have hne : ¬ (((s[i].toNat : Int) == (c.toNat : Int)) = true) := by
        simp only [beq_iff_eq]
        exact fun e => h (UInt8.toNat_inj.1 (by omega))
      rw [if_neg hne, if_neg h]
      simp only [el, e3]
      rw [er, es, if_pos (by simp; omega), if_pos (by simp; omega), if_pos (by simp; omega), if_pos (by simp; omega), Int.toNat_natCast, List.set_append_right _ _ (Nat.le_refl _)]
      simp only [Nat.sub_self, List.set_cons_zero]
      rw [rsplit_go c s hs n (i + 1) k out (cur ++ [s[i]]) (by omega) (by omega) (by omega) (by simp; omega)]
      obtain ⟨y, ys, e⟩ := spl_pos c (s.drop (i + 1))
      rw [e]; simp
theorem rsplit_ok (c : UInt8) (s : List UInt8) (k : Nat) (hs : s.length ≤ 10000000) (hk : s.length < k) : vineryref02_split.f k s (c.toNat : Int) = some (spl c s) := by
  unfold vineryref02_split.f
  have := rsplit_go c s hs s.length 0 k [] [] (by omega) hk (by simp) (by simp)
  simp only [List.nil_append, List.drop_zero, show ((0 : Nat) : Int) = 0 from rfl] at this
  rw [this, Option.bind_some]
  obtain ⟨y, ys, e⟩ := spl_pos c s
  rw [e]
/-- what a sign is in a base -/
def sign (c : UInt8) : Int := if 97 ≤ c.toNat ∧ c.toNat ≤ 102 then (c.toNat : Int) - 97 + 10 else if 48 ≤ c.toNat ∧ c.toNat ≤ 57 then (c.toNat : Int) - 48 else -1
theorem sign_dgt (d : Nat) (h : d < 16) : sign (dgt d) = d := by
  unfold sign
  rw [dgt_toNat h]
  by_cases h1 : d < 10
  · rw [if_pos h1, if_neg (by omega), if_pos (by omega)]; omega
  · rw [if_neg h1, if_pos (by omega)]; omega
theorem digits_step (s : List UInt8) (base : Int) (k i : Nat) (x : Int) (hi : i < s.length) (hs : s.length ≤ 1000) :
    vineryref02_Digits.l0 s base (k + 1) x (i : Int) = if sign (s.getD i 0) < 0 ∨ base ≤ sign (s.getD i 0) then some (.inl (-1)) else vineryref02_Digits.l0 s base k (IntKind.i64.wrap (IntKind.i64.wrap (x * base) + sign (s.getD i 0))) ((i + 1 : Nat) : Int) := by
  have e3 : IntKind.i64.wrap ((i : Int) + 1) = ((i + 1 : Nat) : Int) := by rw [w64 _ (by omega)]; omega
  have hc := (s.getD i 0).toNat_lt
  rw [vineryref02_Digits.l0, if_pos (by rw [bsize]; simp; omega)]
  simp only [Int.toNat_natCast, e3]
  obtain ⟨c, hcc⟩ : ∃ c, s.getD i 0 = c := ⟨_, rfl⟩
  simp only [hcc] at hc ⊢
  have hin : (0 : Int) ≤ (i : Int) ∧ (i : Int) < (s.length : Int) := by omega
  simp only [if_pos hin]
  have a1 : ((if (decide ((c.toNat : Int) ≥ (48 : Int))) = true then some (decide ((c.toNat : Int) ≤ (57 : Int)) : Bool) else some (false : Bool))).bind (fun s34 => (if s34 = true then some (IntKind.i64.wrap (IntKind.u8.wrap ((c.toNat : Int) - (48 : Int))) : Int) else some ((-1 : Int) : Int))) = some (if 48 ≤ c.toNat ∧ c.toNat ≤ 57 then (c.toNat : Int) - 48 else -1) := by
    by_cases g1 : 48 ≤ c.toNat
    · rw [if_pos (by simp; omega), Option.bind_some]
      by_cases g2 : c.toNat ≤ 57
      · rw [if_pos (by simp; omega), if_pos ⟨g1, g2⟩, u8w _ (by omega), w64 _ (by omega)]
      · rw [if_neg (by simp; omega), if_neg (by omega)]
    · rw [if_neg (by simp; omega), Option.bind_some, if_neg (by simp), if_neg (by omega)]
  rw [a1, Option.bind_some]
  have a2 : ((if (decide ((c.toNat : Int) ≥ (97 : Int))) = true then some (decide ((c.toNat : Int) ≤ (102 : Int)) : Bool) else some (false : Bool))).bind (fun s27 => (if s27 = true then some (IntKind.i64.wrap ((IntKind.i64.wrap (IntKind.u8.wrap ((c.toNat : Int) - (97 : Int)))) + (10 : Int)) : Int) else some ((if 48 ≤ c.toNat ∧ c.toNat ≤ 57 then (c.toNat : Int) - 48 else -1) : Int))) = some (sign c) := by
    unfold sign
    by_cases g1 : 97 ≤ c.toNat
    · rw [if_pos (by simp; omega), Option.bind_some]
      by_cases g2 : c.toNat ≤ 102
      · rw [if_pos (by simp; omega), if_pos ⟨g1, g2⟩, u8w _ (by omega), w64 ((c.toNat : Int) - 97) (by omega), w64 _ (by omega)]
      · rw [if_neg (by simp; omega), if_neg (show ¬ (48 ≤ c.toNat ∧ c.toNat ≤ 57) by omega), if_neg (show ¬ (97 ≤ c.toNat ∧ c.toNat ≤ 102) by omega)]
    · rw [if_neg (by simp; omega), Option.bind_some, if_neg (by simp), if_neg (show ¬ (97 ≤ c.toNat ∧ c.toNat ≤ 102) by omega)]
  rw [a2, Option.bind_some]
  by_cases g : sign c < 0 ∨ base ≤ sign c
  · rw [if_pos g, if_pos]
    rcases g with g | g <;> simp [g]
  · have g1 : decide (sign c < 0) = false := by simp; omega
    have g2 : decide (sign c ≥ base) = false := by simp; omega
    rw [if_neg g, g1, g2, if_neg (by simp)]
theorem digits_any (k : Nat) (s : List UInt8) (base most : Int) (hm : most ≤ 100) (hk : 200 ≤ k) : ∃ n, vineryref02_Digits.f k s base most = some n := by
  unfold vineryref02_Digits.f
  rw [bsize]
  by_cases h0 : s.length = 0
  · rw [if_pos (by simp [h0])]; exact ⟨_, rfl⟩
  by_cases h1 : (s.length : Int) > most
  · rw [if_pos (by simp [h1])]; exact ⟨_, rfl⟩
  · have hl : s.length ≤ 100 := by omega
    rw [if_neg (by simp [h1]; intro e; exact h0 (by simp [e]))]
    have go : ∀ (n i k : Nat) (x : Int), i + n = s.length → n < k → ∃ r, vineryref02_Digits.l0 s base k x (i : Int) = some r := by
      intro n
      induction n with
      | zero =>
        intro i k x hi hk
        obtain ⟨k, rfl⟩ : ∃ k', k = k' + 1 := ⟨k - 1, by omega⟩
        exact ⟨.inr x, by rw [vineryref02_Digits.l0, if_neg (by rw [bsize]; simp; omega)]⟩
      | succ n ih =>
        intro i k x hi hk
        obtain ⟨k, rfl⟩ : ∃ k', k = k' + 1 := ⟨k - 1, by omega⟩
        rw [digits_step s base k i x (by omega) (by omega)]
        split
        · exact ⟨_, rfl⟩
        · exact ih (i + 1) k _ (by omega) (by omega)
    obtain ⟨r, hr⟩ := go s.length 0 k 0 (by omega) (by omega)
    rw [show ((0 : Nat) : Int) = 0 from rfl] at hr
    rw [hr, Option.bind_some]
    cases r <;> exact ⟨_, rfl⟩
theorem digits_nil (k : Nat) (base most : Int) : vineryref02_Digits.f k [] base most = some (-1) := by
  unfold vineryref02_Digits.f
  rw [if_pos (by simp [bsize])]
theorem digits_go (s : List UInt8) (base : Nat) (hb2 : 2 ≤ base) (hb : base ≤ 16) (hs : s.length ≤ 1000) : ∀ (u i k : Nat) (rest : List UInt8), s.drop i = numD base u ++ rest → u < 1000000000000 →
    vineryref02_Digits.l0 s (base : Int) (k + (numD base u).length) 0 (i : Int) = vineryref02_Digits.l0 s (base : Int) k (u : Int) ((i + (numD base u).length : Nat) : Int) := by
  have one : ∀ (x : Nat) (d i k : Nat) (rest : List UInt8), x * 16 < 1000000000000000 → d < base → s.drop i = dgt d :: rest → vineryref02_Digits.l0 s (base : Int) (k + 1) (x : Int) (i : Int) = vineryref02_Digits.l0 s (base : Int) k ((x * base + d : Nat) : Int) ((i + 1 : Nat) : Int) := by
    intro x d i k rest hx hd hsd
    have hi : i < s.length := by
      have := congrArg List.length hsd
      rw [List.length_drop, List.length_cons] at this
      omega
    have hc : s.getD i 0 = dgt d := by
      have := congrArg (fun l => l[0]?) hsd
      simp only [List.getElem?_drop, Nat.add_zero, List.getElem?_cons_zero] at this
      rw [List.getD_eq_getElem?_getD, this]; rfl
    have hxb : x * base ≤ x * 16 := Nat.mul_le_mul_left _ hb
    rw [digits_step s base k i x hi hs, hc, sign_dgt d (by omega), if_neg (by omega)]
    have e1 : (x : Int) * (base : Int) = ((x * base : Nat) : Int) := by push_cast; rfl
    have key : ∀ Q : Nat, Q < 4611686018427387904 → IntKind.i64.wrap (Q : Int) = (Q : Int) := fun Q h => w64 _ (by omega)
    rw [e1, key _ (by omega), show (((x * base : Nat) : Int) + (d : Int)) = ((x * base + d : Nat) : Int) by push_cast; rfl, key _ (by omega)]
  intro u
  induction u using Nat.strongRecOn with
  | ind u ih =>
    intro i k rest hsd hu
    by_cases hsm : u < base
    · rw [numD_small hsm] at hsd ⊢
      have := one 0 u i k rest (by decide) hsm hsd
      simpa using this
    · have hq : u / base < u := Nat.div_lt_self (by omega) (by omega)
      have hbig := numD_big (base := base) (u := u) (by omega) hb2
      rw [hbig] at hsd ⊢
      rw [List.append_assoc] at hsd
      have i1 := ih (u / base) hq i (k + 1) ([dgt (u % base)] ++ rest) hsd (by omega)
      rw [List.length_append, List.length_singleton, show k + ((numD base (u / base)).length + 1) = (k + 1) + (numD base (u / base)).length by omega, i1]
      have hm := Nat.mod_lt u (show 0 < base by omega)
      have := one (u / base) (u % base) (i + (numD base (u / base)).length) k rest (by omega) hm (by
        have := congrArg (List.drop (numD base (u / base)).length) hsd
        rw [List.drop_drop, List.drop_left] at this
        exact this)
      rw [this, Nat.mul_comm (u / base) base, Nat.div_add_mod, Nat.add_assoc]
theorem digits_ok (k : Nat) (base : Nat) (hb2 : 2 ≤ base) (hb : base ≤ 16) (u : Nat) (most : Int) (hm : ((numD base u).length : Int) ≤ most) (hl : (numD base u).length ≤ 1000) (hu : u < 1000000000000) (hk : (numD base u).length < k) :
    vineryref02_Digits.f k (numD base u) (base : Int) most = some (u : Int) := by
  unfold vineryref02_Digits.f
  have h1 := numD_len hb2 u
  have := digits_go (numD base u) base hb2 hb hl u 0 (k - (numD base u).length) [] (by simp) hu
  rw [show k - (numD base u).length + (numD base u).length = k by omega, show ((0 : Nat) : Int) = 0 from rfl, Nat.zero_add] at this
  obtain ⟨k', e⟩ : ∃ k', k - (numD base u).length = k' + 1 := ⟨k - (numD base u).length - 1, by omega⟩
  have c0 : (((numD base u).length : Int) == 0) = false := by rw [beq_eq_false_iff_ne]; omega
  have c1 : decide (((numD base u).length : Int) > most) = false := by rw [decide_eq_false_iff_not]; omega
  rw [bsize, c0, c1, if_neg (by simp), this, e, vineryref02_Digits.l0, if_neg (by rw [bsize]; simp)]; rfl
/-- the number that stands at a place -/
def rnum (K : Nat) (l : List (List UInt8)) (g : Int) (x : Int) : Option Int := (if (if (decide (g < (0 : Int))) = true then true else (decide (x < g))) = true then (if (decide (x < (l.length : Int))) = true then (if 0 ≤ x ∧ x < (l.length : Int) then (vineryref02_Digits.f K (rd l x) (16 : Int) (4 : Int)).bind fun t88 => some (if t88 > (0 : Int) then t88 else (0 : Int) : Int) else none) else some ((0 : Int) : Int)) else (if (if (decide ((IntKind.i64.wrap ((IntKind.i64.wrap ((l.length : Int) - (8 : Int))) + x)) > g)) = true then (decide ((IntKind.i64.wrap ((IntKind.i64.wrap ((l.length : Int) - (8 : Int))) + x)) < (l.length : Int))) else false) = true then (if 0 ≤ (IntKind.i64.wrap ((IntKind.i64.wrap ((l.length : Int) - (8 : Int))) + x)) ∧ (IntKind.i64.wrap ((IntKind.i64.wrap ((l.length : Int) - (8 : Int))) + x)) < (l.length : Int) then (vineryref02_Digits.f K (rd l (IntKind.i64.wrap ((IntKind.i64.wrap ((l.length : Int) - (8 : Int))) + x))) (16 : Int) (4 : Int)).bind fun t99 => some (if t99 > (0 : Int) then t99 else (0 : Int) : Int) else none) else some ((0 : Int) : Int)))
theorem rough_l2 (K : Nat) (l : List (List UInt8)) (g : Int) (nf : Nat → Int) (h : ∀ i : Nat, i < 8 → rnum K l g (i : Int) = some (nf i)) : ∀ (m i k : Nat) (x : List Int), i + m = 8 → m < k → x.length = 16 → isB x →
    ∃ r, vineryref02_rough.l2 K l g k (i : Int) x = some r ∧ r.length = 16 ∧ isB r ∧ ∀ j, j < 16 → ar r j = if i ≤ j / 2 then (if j % 2 = 0 then IntKind.u8.wrap (IntKind.i64.wrap (Int.tdiv (nf (j / 2)) 256)) else IntKind.u8.wrap (nf (j / 2))) else ar x j
  | 0, i, k, x, hi, hk, hx, hb => by
    obtain ⟨k, rfl⟩ : ∃ k', k = k' + 1 := ⟨k - 1, by omega⟩
    exact ⟨x, by rw [vineryref02_rough.l2, if_neg (by simp; omega)], hx, hb, fun j hj => by rw [if_neg (by omega)]⟩
  | m + 1, i, k, x, hi, hk, hx, hb => by
    obtain ⟨k, rfl⟩ : ∃ k', k = k' + 1 := ⟨k - 1, by omega⟩
    have e1 : IntKind.i64.wrap (2 * (i : Int)) = ((2 * i : Nat) : Int) := by rw [w64 _ (by omega)]; omega
    have e2 : IntKind.i64.wrap (((2 * i : Nat) : Int) + 1) = ((2 * i + 1 : Nat) : Int) := by rw [w64 _ (by omega)]; omega
    have e3 : IntKind.i64.wrap ((i : Int) + 1) = ((i + 1 : Nat) : Int) := by rw [w64 _ (by omega)]; omega
    have hn := h i (by omega)
    have hw : ∀ q : Int, 0 ≤ IntKind.u8.wrap q ∧ IntKind.u8.wrap q ≤ 255 := fun q => by rw [IntKind.wrap_u8]; omega
    rw [vineryref02_rough.l2, if_pos (by simp; omega)]
    unfold rnum at hn
    rw [hn, Option.bind_some, e1, e2, e3, if_pos (by omega), if_pos (by omega), Int.toNat_natCast, Int.toNat_natCast, arL16 hx, arL16 (by simpa using hx)]
    obtain ⟨r, hr, r1, r2, r3⟩ := rough_l2 K l g nf h m (i + 1) k ((x.set (2 * i) (IntKind.u8.wrap (IntKind.i64.wrap (Int.tdiv (nf i) 256)))).set (2 * i + 1) (IntKind.u8.wrap (nf i))) (by omega) (by omega) (by simpa using hx) (fun y hy => by
      rcases List.mem_or_eq_of_mem_set hy with hy | rfl
      · rcases List.mem_or_eq_of_mem_set hy with hy | rfl
        · exact hb y hy
        · exact hw _
      · exact hw _)
    refine ⟨r, hr, r1, r2, fun j hj => ?_⟩
    rw [r3 j hj, ar_setD _ _ _ _ (by simp [hx]; omega), ar_setD _ _ _ _ (by omega)]
    by_cases h1 : i + 1 ≤ j / 2
    · have h4 : i ≤ j / 2 := by omega
      rw [if_pos h1, if_pos h4]
    · rw [if_neg h1]
      by_cases h2 : j = 2 * i + 1
      · rw [if_pos h2, if_pos (by omega), if_neg (by omega), show j / 2 = i by omega]
      · rw [if_neg h2]
        by_cases h3 : j = 2 * i
        · rw [if_pos h3, if_pos (by omega), if_pos (by omega), show j / 2 = i by omega]
        · rw [if_neg h3, if_neg (by omega)]
theorem rnum_any (K : Nat) (hK : 200 ≤ K) (l : List (List UInt8)) (hl : l.length ≤ 1000000) (g : Int) (i : Nat) (hi : i < 8) : ∃ n, rnum K l g (i : Int) = some n := by
  unfold rnum
  have e1 : IntKind.i64.wrap ((IntKind.i64.wrap ((l.length : Int) - 8)) + (i : Int)) = (l.length : Int) - 8 + i := by rw [w64 ((l.length : Int) - 8) (by omega), w64 _ (by omega)]
  rw [e1]
  by_cases hg : g < 0 ∨ (i : Int) < g
  · rw [if_pos (by rcases hg with h | h <;> simp [h])]
    by_cases h2 : (i : Int) < l.length
    · rw [if_pos (by simp; omega), if_pos (by omega)]
      obtain ⟨n, hn⟩ := digits_any K (rd l (i : Int)) 16 4 (by decide) hK
      rw [hn]; exact ⟨_, rfl⟩
    · rw [if_neg (by simp; omega)]; exact ⟨_, rfl⟩
  · have g1 : decide (g < 0) = false := by simp; omega
    have g2 : decide ((i : Int) < g) = false := by simp; omega
    rw [g1, g2, if_neg (by simp)]
    by_cases hc : g < (l.length : Int) - 8 + i ∧ (l.length : Int) - 8 + i < l.length
    · have c1 : decide ((l.length : Int) - 8 + i > g) = true := by simp; omega
      have c2 : decide ((l.length : Int) - 8 + i < (l.length : Int)) = true := by simp; omega
      rw [c1, c2, if_pos (by simp), if_pos (by omega)]
      obtain ⟨n, hn⟩ := digits_any K (rd l ((l.length : Int) - 8 + i)) 16 4 (by decide) hK
      rw [hn]; exact ⟨_, rfl⟩
    · rw [if_neg]
      · exact ⟨_, rfl⟩
      · intro h
        by_cases q : g < (l.length : Int) - 8 + i
        · rw [decide_eq_true (show (l.length : Int) - 8 + i > g from q), if_pos rfl, decide_eq_true_eq] at h
          exact hc ⟨q, h⟩
        · rw [decide_eq_false (show ¬ (l.length : Int) - 8 + i > g from q), if_neg (by simp)] at h
          exact absurd h (by simp)
theorem rough_l1 (l : List (List UInt8)) (hl : l.length ≤ 10000000) : ∀ (n i k : Nat), i + n + 1 = l.length ∨ l.length ≤ i + 1 ∧ n = 0 → n + 1 < k → ∃ g : Int, vineryref02_rough.l1 l k (-1) (i : Int) = some g
  | 0, i, k, h, hk => by
    obtain ⟨k, rfl⟩ : ∃ k', k = k' + 1 := ⟨k - 1, by omega⟩
    exact ⟨-1, by rw [vineryref02_rough.l1, w64 _ (by omega), if_neg (by simp; omega)]⟩
  | n + 1, i, k, h, hk => by
    obtain ⟨k, rfl⟩ : ∃ k', k = k' + 1 + 1 := ⟨k - 2, by omega⟩
    have e3 : IntKind.i64.wrap ((i : Int) + 1) = ((i + 1 : Nat) : Int) := by rw [w64 _ (by omega)]; omega
    rw [vineryref02_rough.l1, w64 ((l.length : Int) - 1) (by omega), if_pos (by simp; omega), if_pos (by omega), e3]
    split
    · exact ⟨(i : Int), by rw [vineryref02_rough.l1, w64 ((l.length : Int) - 1) (by omega), if_neg (by simp)]⟩
    · exact rough_l1 l hl n (i + 1) (k + 1) (by omega) (by omega)
theorem rough_l1_at (l : List (List UInt8)) (hl : l.length ≤ 1000) (g : Nat) (hg : g + 1 < l.length) (h0 : l[g]? = some []) : ∀ (n i k : Nat), i + n = g → (∀ j x, i ≤ j → j < g → l[j]? = some x → x ≠ []) → n + 2 < k → vineryref02_rough.l1 l k (-1) (i : Int) = some (g : Int)
  | 0, i, k, h, hne, hk => by
    obtain ⟨k, rfl⟩ : ∃ k', k = k' + 1 + 1 := ⟨k - 2, by omega⟩
    have e3 : IntKind.i64.wrap ((i : Int) + 1) = ((i + 1 : Nat) : Int) := by rw [w64 _ (by omega)]; omega
    have er : rd l (i : Int) = [] := by unfold rd; rw [Int.toNat_natCast, List.getD_eq_getElem?_getD, show i = g by omega, h0]; rfl
    rw [vineryref02_rough.l1, w64 ((l.length : Int) - 1) (by omega), if_pos (by simp; omega), if_pos (by omega), e3, er, if_pos (by simp), vineryref02_rough.l1, w64 ((l.length : Int) - 1) (by omega), if_neg (by simp), show i = g by omega]
  | n + 1, i, k, h, hne, hk => by
    obtain ⟨k, rfl⟩ : ∃ k', k = k' + 1 := ⟨k - 1, by omega⟩
    have e3 : IntKind.i64.wrap ((i : Int) + 1) = ((i + 1 : Nat) : Int) := by rw [w64 _ (by omega)]; omega
    have hil : i < l.length := by omega
    have er : rd l (i : Int) = l[i] := by unfold rd; rw [Int.toNat_natCast, List.getD_eq_getElem?_getD, List.getElem?_eq_getElem hil]; rfl
    have hx := hne i l[i] (Nat.le_refl _) (by omega) (List.getElem?_eq_getElem hil)
    rw [vineryref02_rough.l1, w64 ((l.length : Int) - 1) (by omega), if_pos (by simp; omega), if_pos (by omega), e3, er, bstr_toList, bstr_toList, if_neg (by simpa using hx)]
    exact rough_l1_at l hl g hg h0 n (i + 1) k (by omega) (fun j x h1 h2 => hne j x (by omega) h2) (by omega)
theorem rough_l1_none (l : List (List UInt8)) (hl : l.length ≤ 1000) : ∀ (n i k : Nat), i + n + 1 = l.length → (∀ j x, i ≤ j → l[j]? = some x → x ≠ []) → n + 2 < k → vineryref02_rough.l1 l k (-1) (i : Int) = some (-1)
  | 0, i, k, h, hne, hk => by
    obtain ⟨k, rfl⟩ : ∃ k', k = k' + 1 := ⟨k - 1, by omega⟩
    rw [vineryref02_rough.l1, w64 _ (by omega), if_neg (by simp; omega)]
  | n + 1, i, k, h, hne, hk => by
    obtain ⟨k, rfl⟩ : ∃ k', k = k' + 1 := ⟨k - 1, by omega⟩
    have e3 : IntKind.i64.wrap ((i : Int) + 1) = ((i + 1 : Nat) : Int) := by rw [w64 _ (by omega)]; omega
    have hil : i < l.length := by omega
    have er : rd l (i : Int) = l[i] := by unfold rd; rw [Int.toNat_natCast, List.getD_eq_getElem?_getD, List.getElem?_eq_getElem hil]; rfl
    have hx := hne i l[i] (Nat.le_refl _) (List.getElem?_eq_getElem hil)
    rw [vineryref02_rough.l1, w64 ((l.length : Int) - 1) (by omega), if_pos (by simp; omega), if_pos (by omega), e3, er, bstr_toList, bstr_toList, if_neg (by simpa using hx)]
    exact rough_l1_none l hl n (i + 1) k (by omega) (fun j x h1 => hne j x (by omega)) (by omega)
theorem rough_l0 (K : Nat) (hK : 200 ≤ K) (l : List (List UInt8)) (hl : l.length = 4) : ∀ (m i k : Nat) (x : List Int), i + m = 4 → m < k → x.length = 16 → isB x → ∃ r, vineryref02_rough.l0 K l k (i : Int) x = some r ∧ r.length = 16 ∧ isB r
  | 0, i, k, x, hi, hk, hx, hb => by
    obtain ⟨k, rfl⟩ : ∃ k', k = k' + 1 := ⟨k - 1, by omega⟩
    exact ⟨x, by rw [vineryref02_rough.l0, if_neg (by simp; omega)], hx, hb⟩
  | m + 1, i, k, x, hi, hk, hx, hb => by
    obtain ⟨k, rfl⟩ : ∃ k', k = k' + 1 := ⟨k - 1, by omega⟩
    have e3 : IntKind.i64.wrap ((i : Int) + 1) = ((i + 1 : Nat) : Int) := by rw [w64 _ (by omega)]; omega
    obtain ⟨n, hn⟩ := digits_any K (rd l (i : Int)) 10 3 (by decide) hK
    rw [vineryref02_rough.l0, if_pos (by simp; omega), if_pos (by omega), hn, Option.bind_some, if_pos (by omega), e3, arL16 hx]
    exact rough_l0 K hK l hl m (i + 1) k _ (by omega) (by omega) (by simpa using hx) (fun y hy => by
      rcases List.mem_or_eq_of_mem_set hy with hy | rfl
      · exact hb y hy
      · rw [IntKind.wrap_u8]; omega)
theorem spl_len (c : UInt8) : ∀ s : List UInt8, (spl c s).length ≤ s.length + 1
  | [] => by simp [spl]
  | x :: s => by
    have := spl_len c s
    rw [spl]
    split
    · simp; omega
    · split
      · simp
      · rename_i h; rw [h] at this; simp at this ⊢; omega
theorem rough_any (k : Nat) (s : List UInt8) (hs : s.length ≤ 1000) (hk : 2000 ≤ k) : ∃ a, vineryref02_rough.f k s = some a ∧ adrB a := by
  unfold vineryref02_rough.f
  have h1 := rsplit_ok 46 s k (by omega) (by omega)
  have h2 := rsplit_ok 58 s k (by omega) (by omega)
  rw [show (46 : Int) = (((46 : UInt8).toNat : Nat) : Int) from rfl, show (58 : Int) = (((58 : UInt8).toNat : Nat) : Int) from rfl, h1, Option.bind_some]
  by_cases h4 : (spl 46 s).length = 4
  · rw [if_pos (by simp [h4])]
    obtain ⟨r, hr, r1, r2⟩ := rough_l0 k (by omega) (spl 46 s) h4 4 0 k (List.replicate 16 0) rfl (by omega) (by simp) zeros_isB
    rw [show ((0 : Nat) : Int) = 0 from rfl] at hr
    rw [hr]; exact ⟨_, rfl, r2, r1⟩
  · rw [if_neg (by simp; omega), h2, Option.bind_some]
    have hl := spl_len 58 s
    obtain ⟨g, hg⟩ := rough_l1 (spl 58 s) (by omega) ((spl 58 s).length - 2) 1 k (by omega) (by omega)
    rw [show ((1 : Nat) : Int) = 1 from rfl] at hg
    rw [hg, Option.bind_some]
    have hn : ∀ i : Nat, i < 8 → rnum k (spl 58 s) g (i : Int) = some ((rnum k (spl 58 s) g (i : Int)).getD 0) := fun i hi => by
      obtain ⟨n, e⟩ := rnum_any k (by omega) (spl 58 s) (by omega) g i hi
      rw [e]; rfl
    obtain ⟨r, hr, r1, r2, _⟩ := rough_l2 k (spl 58 s) g (fun i => (rnum k (spl 58 s) g (i : Int)).getD 0) hn 8 0 k (List.replicate 16 0) rfl (by omega) (by simp) zeros_isB
    rw [show ((0 : Nat) : Int) = 0 from rfl] at hr
    rw [hr]; exact ⟨_, rfl, r2, r1⟩
theorem rough4_ok (k : Nat) (a : S_api_Addr) (h : adrB a) (hr : rightB a = true) (h4 : a.Size = 4) (hk : 2000 ≤ k) : vineryref02_rough.f k (txt4 a.B) = some a := by
  have b0 := ar_isB h.1 0; have b1 := ar_isB h.1 1; have b2 := ar_isB h.1 2; have b3 := ar_isB h.1 3
  have d0 := dec3 _ b0; have d1 := dec3 _ b1; have d2 := dec3 _ b2; have d3 := dec3 _ b3
  have hlen := txt4_len a.B h.1
  unfold vineryref02_rough.f
  have h1 := rsplit_ok 46 (txt4 a.B) k (by omega) (by omega)
  have fr : ∀ u, (46 : UInt8) ∉ numD 10 u := fun u => numD_free (by decide) (by decide) u 46 (by decide)
  have es : spl 46 (txt4 a.B) = [numD 10 (ar a.B 0).toNat, numD 10 (ar a.B 1).toNat, numD 10 (ar a.B 2).toNat, numD 10 (ar a.B 3).toNat] := by
    rw [txt4_numD _ h.1, spl_app _ (fr _), spl_app _ (fr _), spl_app _ (fr _), spl_free (fr _)]
  rw [show (46 : Int) = (((46 : UInt8).toNat : Nat) : Int) from rfl, h1, Option.bind_some, es, if_pos (by simp)]
  have nn : ∀ i, vineryref02_Digits.f k (numD 10 (ar a.B i).toNat) (10 : Int) 3 = some (ar a.B i) := fun i => by
    have hb := ar_isB h.1 i
    have hd := dec3 _ hb
    have := digits_ok k 10 (by decide) (by decide) (ar a.B i).toNat 3 (by omega) (by omega) (by omega) (by omega)
    rwa [show (((ar a.B i).toNat : Nat) : Int) = ar a.B i by omega] at this
  have mx : ∀ i, IntKind.u8.wrap (if ar a.B i > 0 then ar a.B i else 0) = ar a.B i := fun i => by
    have hb := ar_isB h.1 i
    split
    · exact u8w _ hb
    · rw [u8w _ (by decide)]; omega
  obtain ⟨k, rfl⟩ : ∃ k', k = k' + 5 := ⟨k - 5, by omega⟩
  have w1 : IntKind.i64.wrap (0 + 1) = 1 := by decide
  have w2 : IntKind.i64.wrap (1 + 1) = 2 := by decide
  have w3 : IntKind.i64.wrap (2 + 1) = 3 := by decide
  have w4 : IntKind.i64.wrap (3 + 1) = 4 := by decide
  have r0 : ∀ x0 x1 x2 x3 : List UInt8, rd [x0, x1, x2, x3] 0 = x0 := fun _ _ _ _ => rfl
  have r1 : ∀ x0 x1 x2 x3 : List UInt8, rd [x0, x1, x2, x3] 1 = x1 := fun _ _ _ _ => rfl
  have r2 : ∀ x0 x1 x2 x3 : List UInt8, rd [x0, x1, x2, x3] 2 = x2 := fun _ _ _ _ => rfl
  have r3 : ∀ x0 x1 x2 x3 : List UInt8, rd [x0, x1, x2, x3] 3 = x3 := fun _ _ _ _ => rfl
  rw [vineryref02_rough.l0, if_pos (by decide), if_pos (by simp), r0, nn 0, Option.bind_some, if_pos (by decide), w1, mx 0,
    vineryref02_rough.l0, if_pos (by decide), if_pos (by simp), r1, nn 1, Option.bind_some, if_pos (by decide), w2, mx 1,
    vineryref02_rough.l0, if_pos (by decide), if_pos (by simp), r2, nn 2, Option.bind_some, if_pos (by decide), w3, mx 2,
    vineryref02_rough.l0, if_pos (by decide), if_pos (by simp), r3, nn 3, Option.bind_some, if_pos (by decide), w4, mx 3,
    vineryref02_rough.l0, if_neg (by decide), Option.bind_some]
  have e := right4_B hr h4 h.2
  have : (([ar a.B 0, ar a.B 1, ar a.B 2, ar a.B 3, 0, 0, 0, 0, 0, 0, 0, 0, 0, 0, 0, 0] : List Int)) = a.B := e.symm
  cases a
  simp only at h4 this
  subst h4
  exact congrArg (fun b => some (⟨4, b⟩ : S_api_Addr)) this
/-- the parts of numbers written with colons -/
def splW (ns : List Int) : List (List UInt8) := if ns = [] then [[]] else ns.map fun n => numD 16 n.toNat
theorem spl_wr : ∀ ns : List Int, spl 58 (wr ns) = splW ns
  | [] => rfl
  | [n] => by
    rw [splW, if_neg (by simp)]
    exact spl_free (numD_free (by decide) (by decide) n.toNat 58 (by decide))
  | n :: m :: ns => by
    have := spl_wr (m :: ns)
    rw [splW, if_neg (by simp)] at this ⊢
    show spl 58 (numD 16 n.toNat ++ 58 :: wr (m :: ns)) = _
    rw [spl_app _ (numD_free (by decide) (by decide) n.toNat 58 (by decide)), this]; rfl
theorem spl_front : ∀ (ns : List Int) (s : List UInt8), spl 58 (wr ns ++ 58 :: s) = splW ns ++ spl 58 s
  | [], s => by simp [wr, txtL, splW, spl]
  | [n], s => by
    rw [splW, if_neg (by simp)]
    show spl 58 (numD 16 n.toNat ++ 58 :: s) = _
    rw [spl_app _ (numD_free (by decide) (by decide) n.toNat 58 (by decide))]; rfl
  | n :: m :: ns, s => by
    have := spl_front (m :: ns) s
    rw [splW, if_neg (by simp)] at this ⊢
    show spl 58 ((numD 16 n.toNat ++ 58 :: wr (m :: ns)) ++ 58 :: s) = _
    rw [List.append_assoc, List.cons_append, spl_app _ (numD_free (by decide) (by decide) n.toNat 58 (by decide)), this]; rfl
theorem hexdig (K : Nat) (hK : 100 ≤ K) (n : Int) (h : 0 ≤ n ∧ n < 65536) : vineryref02_Digits.f K (numD 16 n.toNat) (16 : Int) 4 = some n := by
  have hl := numD16_len n.toNat (by omega)
  have := digits_ok K 16 (by decide) (by decide) n.toNat 4 (by omega) (by omega) (by omega) (by omega)
  rwa [show ((n.toNat : Nat) : Int) = n by omega] at this
theorem mx0 (n : Int) (h : 0 ≤ n) : (if n > 0 then n else 0) = n := by split <;> omega
theorem rd_some {l : List (List UInt8)} {i : Nat} {x : List UInt8} (h : l[i]? = some x) : rd l (i : Int) = x := by
  unfold rd; rw [Int.toNat_natCast, List.getD_eq_getElem?_getD, h]; rfl
theorem rnum_head (K : Nat) (l : List (List UInt8)) (g : Int) (i : Nat) (hg : g < 0 ∨ (i : Int) < g) (x : List UInt8) (hx : l[i]? = some x) (n : Int) (hn : vineryref02_Digits.f K x 16 4 = some n) : rnum K l g (i : Int) = some (if n > 0 then n else 0) := by
  have hil : i < l.length := (List.getElem?_eq_some_iff.1 hx).1
  unfold rnum
  rw [if_pos (by rcases hg with h | h <;> simp [h]), if_pos (by simpa using hil), if_pos (by omega), rd_some hx, hn]; rfl
theorem rnum_tail (K : Nat) (l : List (List UInt8)) (hl : l.length ≤ 1000) (g i q : Nat) (hg : g ≤ i) (hi : i < 8) (hq : l.length + i = q + 8) (h : g < q) (x : List UInt8) (hx : l[q]? = some x) (n : Int) (hn : vineryref02_Digits.f K x 16 4 = some n) : rnum K l (g : Int) (i : Int) = some (if n > 0 then n else 0) := by
  have hql : q < l.length := (List.getElem?_eq_some_iff.1 hx).1
  have e1 : IntKind.i64.wrap ((IntKind.i64.wrap ((l.length : Int) - 8)) + (i : Int)) = (q : Int) := by rw [w64 ((l.length : Int) - 8) (by omega), w64 _ (by omega)]; omega
  have g1 : decide ((g : Int) < 0) = false := by simp
  have g2 : decide ((i : Int) < (g : Int)) = false := by simp; omega
  have c1 : decide ((q : Int) > (g : Int)) = true := by simp; omega
  have c2 : decide ((q : Int) < (l.length : Int)) = true := by simp; omega
  unfold rnum
  rw [e1, g1, g2, if_neg (by simp), c1, c2, if_pos (by simp), if_pos (by omega), rd_some hx, hn]; rfl
theorem rnum_gap (K : Nat) (l : List (List UInt8)) (hl : l.length ≤ 1000) (g i : Nat) (hg : g ≤ i) (hi : i < 8) (h : l.length + i ≤ g + 8) : rnum K l (g : Int) (i : Int) = some 0 := by
  have e1 : IntKind.i64.wrap ((IntKind.i64.wrap ((l.length : Int) - 8)) + (i : Int)) = (l.length : Int) - 8 + i := by rw [w64 ((l.length : Int) - 8) (by omega), w64 _ (by omega)]
  have g1 : decide ((g : Int) < 0) = false := by simp
  have g2 : decide ((i : Int) < (g : Int)) = false := by simp; omega
  have c1 : decide ((l.length : Int) - 8 + i > (g : Int)) = false := by simp; omega
  unfold rnum
  rw [e1, g1, g2, if_neg (by simp), c1, if_neg (by simp)]
theorem splW_get (ns : List Int) (i : Nat) (h : i < ns.length) : (splW ns)[i]? = some (numD 16 (ns.getD i 0).toNat) := by
  have hne : ns ≠ [] := fun e => by rw [e] at h; simp at h
  rw [splW, if_neg hne, List.getElem?_map, List.getElem?_eq_getElem h, List.getD_eq_getElem?_getD, List.getElem?_eq_getElem h]; rfl
theorem splW_len (ns : List Int) : (splW ns).length = if ns = [] then 1 else ns.length := by
  unfold splW; split <;> simp_all
theorem getD_take (l : List Int) (f i : Nat) (h : i < f) : (l.take f).getD i 0 = l.getD i 0 := by
  rw [List.getD_eq_getElem?_getD, List.getD_eq_getElem?_getD, List.getElem?_take, if_pos h]
theorem getD_drop (l : List Int) (t i : Nat) : (l.drop t).getD i 0 = l.getD (t + i) 0 := by
  rw [List.getD_eq_getElem?_getD, List.getD_eq_getElem?_getD, List.getElem?_drop]
theorem nil_take {l : List Int} {f : Nat} (hl : l.length = 8) : l.take f = [] ↔ f = 0 := by
  rw [← List.length_eq_zero_iff, List.length_take]; omega
theorem nil_drop {l : List Int} {t : Nat} (hl : l.length = 8) : l.drop t = [] ↔ 8 ≤ t := by
  rw [← List.length_eq_zero_iff, List.length_drop]; omega
theorem gap_nums (K : Nat) (hK : 100 ≤ K) (l : List Int) (hB : isB l) (f t : Nat) (hf : f < t) (ht : t ≤ 8) (hz : ∀ i, f ≤ i → i < t → n16 l i = 0) (i : Nat) (hi : i < 8) :
    rnum K (splW ((nums l).take f) ++ ([] :: splW ((nums l).drop t))) ((max 1 f : Nat) : Int) (i : Int) = some (n16 l i) := by
  have hn := n16_lt hB i
  have hd := hexdig K hK (n16 l i) hn
  have l1 := splW_len ((nums l).take f)
  have l2 := splW_len ((nums l).drop t)
  have t1 : ((nums l).take f).length = f := by rw [List.length_take, nums_len]; omega
  have t2 : ((nums l).drop t).length = 8 - t := by rw [List.length_drop, nums_len]
  simp only [nil_take (nums_len l), nil_drop (nums_len l), t1, t2] at l1 l2
  have lF : (splW ((nums l).take f)).length = max 1 f := by rw [l1]; split <;> omega
  have len : (splW ((nums l).take f) ++ ([] :: splW ((nums l).drop t))).length = max 1 f + 1 + (splW ((nums l).drop t)).length := by simp [lF]; omega
  by_cases h1 : i < f
  · have g : (splW ((nums l).take f) ++ ([] :: splW ((nums l).drop t)))[i]? = some (numD 16 (n16 l i).toNat) := by
      rw [List.getElem?_append_left (by omega), splW_get _ _ (by omega), getD_take _ _ _ h1, nums_getD _ _ hi]
    rw [rnum_head K _ _ i (.inr (by omega)) _ g _ hd, mx0 _ hn.1]
  · by_cases h2 : i < t
    · have z := hz i (by omega) h2
      rw [z]
      by_cases h3 : f = 0 ∧ i = 0
      · have g : (splW ((nums l).take f) ++ ([] :: splW ((nums l).drop t)))[i]? = some [] := by
          have e0 : (nums l).take f = [] := (nil_take (nums_len l)).2 h3.1
          rw [List.getElem?_append_left (by omega), e0, h3.2]; rfl
        rw [rnum_head K _ _ i (.inr (by omega)) _ g _ (digits_nil _ _ _)]; rfl
      · by_cases h8 : t = 8 ∧ i = 7
        · have l3 : (splW ((nums l).drop t)).length = 1 := by rw [l2, if_pos (by omega)]
          have g : (splW ((nums l).take f) ++ ([] :: splW ((nums l).drop t)))[max 1 f + 1]? = some [] := by
            have e0 : (nums l).drop t = [] := (nil_drop (nums_len l)).2 (by omega)
            rw [List.getElem?_append_right (by omega), lF, show max 1 f + 1 - max 1 f = 1 by omega, e0]; rfl
          rw [rnum_tail K _ (by omega) (max 1 f) i (max 1 f + 1) (by omega) hi (by omega) (by omega) _ g _ (digits_nil _ _ _)]; rfl
        · refine rnum_gap K _ ?_ (max 1 f) i (by omega) hi ?_
          · rw [len, l2]; split <;> omega
          · rw [len, l2]; split <;> omega
    · have l3 : (splW ((nums l).drop t)).length = 8 - t := by rw [l2, if_neg (by omega)]
      have g : (splW ((nums l).take f) ++ ([] :: splW ((nums l).drop t)))[max 1 f + 1 + (i - t)]? = some (numD 16 (n16 l i).toNat) := by
        rw [List.getElem?_append_right (by omega), lF, show max 1 f + 1 + (i - t) - max 1 f = (i - t) + 1 by omega, List.getElem?_cons_succ, splW_get _ _ (by omega), getD_drop, show t + (i - t) = i by omega, nums_getD _ _ hi]
      rw [rnum_tail K (splW ((nums l).take f) ++ ([] :: splW ((nums l).drop t))) (by rw [len, l3]; omega) (max 1 f) i (max 1 f + 1 + (i - t)) (by omega) hi (by rw [len, l3]; omega) (by omega) _ g _ hd, mx0 _ hn.1]
theorem rough6_ok (k : Nat) (l : List Int) (hB : isB l) (hl : l.length = 16) (hk : 2000 ≤ k) : vineryref02_rough.f k (txt6 l) = some ⟨16, l⟩ := by
  have hlen := txt6_len hB
  have h16 := nums16 hB
  have h3 := gapOf_ok (nums l)
  unfold vineryref02_rough.f
  have h1 := rsplit_ok 46 (txt6 l) k (by omega) (by omega)
  have h2 := rsplit_ok 58 (txt6 l) k (by omega) (by omega)
  have no46 : (46 : UInt8) ∉ txt6 l := by
    have w : ∀ ns, (46 : UInt8) ∉ wr ns := fun ns => txtL_free (by decide) (by decide) 58 46 (by decide) (by decide) _
    unfold txt6
    simp only
    by_cases hg : (gapOf (nums l)).2 < 2
    · rw [if_pos hg]; exact w _
    · rw [if_neg hg]; simp [w]
  rw [show (46 : Int) = (((46 : UInt8).toNat : Nat) : Int) from rfl, show (58 : Int) = (((58 : UInt8).toNat : Nat) : Int) from rfl, h1, Option.bind_some, spl_free no46, if_neg (by simp), h2, Option.bind_some]
  have fin : ∀ (g : Int) (q : List (List UInt8)), (∀ i : Nat, i < 8 → rnum k q g (i : Int) = some (n16 l i)) → (vineryref02_rough.l2 k q g k (0 : Int) (List.replicate 16 (0 : Int))).bind (fun s57 => some (((⟨(16 : Int), s57⟩ : S_api_Addr) : S_api_Addr))) = some ⟨16, l⟩ := by
    intro g q hq
    obtain ⟨r, hr, r1, r2, r3⟩ := rough_l2 k q g (n16 l) hq 8 0 k (List.replicate 16 0) rfl (by omega) (by simp) zeros_isB
    rw [show ((0 : Nat) : Int) = 0 from rfl] at hr
    have : r = l := ar_ext r1 hl fun j hj => by
      have hn := n16_lt hB (j / 2)
      have td : Int.tdiv (n16 l (j / 2)) 256 = n16 l (j / 2) / 256 := Int.tdiv_eq_ediv_of_nonneg hn.1
      rw [r3 j hj, if_pos (Nat.zero_le _), ← n16_back hB j, td, w64 _ (by omega), IntKind.wrap_u8, IntKind.wrap_u8]
      split <;> omega
    rw [hr, this]; rfl
  by_cases hg : (gapOf (nums l)).2 < 2
  · have e : txt6 l = wr (nums l) := by unfold txt6; simp only; rw [if_pos hg]
    rw [e, spl_wr]
    have hl8 : (splW (nums l)).length = 8 := by rw [splW_len]; rfl
    have g : vineryref02_rough.l1 (splW (nums l)) k (-1) ((1 : Nat) : Int) = some (-1) := by
      refine rough_l1_none _ (by omega) 6 1 k (by omega) (fun j x _ hx => ?_) (by omega)
      have hj : j < 8 := by have := (List.getElem?_eq_some_iff.1 hx).1; omega
      rw [splW_get _ _ (by rw [nums_len]; exact hj)] at hx
      rw [← Option.some.inj hx]; exact numD_ne (by decide) _
    rw [show ((1 : Nat) : Int) = 1 from rfl] at g
    rw [g, Option.bind_some]
    refine fin _ _ fun i hi => ?_
    have hn := n16_lt hB i
    have gi : (splW (nums l))[i]? = some (numD 16 (n16 l i).toNat) := by rw [splW_get _ _ (by rw [nums_len]; exact hi), nums_getD _ _ hi]
    rw [rnum_head k _ _ i (.inl (by decide)) _ gi _ (hexdig k (by omega) _ hn), mx0 _ hn.1]
  · have e : txt6 l = wr ((nums l).take (gapOf (nums l)).1) ++ 58 :: 58 :: wr ((nums l).drop ((gapOf (nums l)).1 + (gapOf (nums l)).2)) := by unfold txt6; simp only; rw [if_neg hg]
    have e2 : spl 58 (58 :: wr ((nums l).drop ((gapOf (nums l)).1 + (gapOf (nums l)).2))) = [] :: splW ((nums l).drop ((gapOf (nums l)).1 + (gapOf (nums l)).2)) := by rw [spl, if_pos rfl, spl_wr]
    rw [e, spl_front, e2]
    generalize hf : (gapOf (nums l)).1 = f at *
    generalize ht : f + (gapOf (nums l)).2 = t at *
    have l1 := splW_len ((nums l).take f)
    have l2 := splW_len ((nums l).drop t)
    have t1 : ((nums l).take f).length = f := by rw [List.length_take, nums_len]; omega
    have t2 : ((nums l).drop t).length = 8 - t := by rw [List.length_drop, nums_len]
    simp only [nil_take (nums_len l), nil_drop (nums_len l), t1, t2] at l1 l2
    have lF : (splW ((nums l).take f)).length = max 1 f := by rw [l1]; split <;> omega
    have lG : 1 ≤ (splW ((nums l).drop t)).length ∧ (splW ((nums l).drop t)).length ≤ 8 := by rw [l2]; split <;> omega
    have g : vineryref02_rough.l1 (splW ((nums l).take f) ++ ([] :: splW ((nums l).drop t))) k (-1) ((1 : Nat) : Int) = some ((max 1 f : Nat) : Int) := by
      refine rough_l1_at _ (by simp [lF]; omega) (max 1 f) (by simp [lF]; omega) ?_ (max 1 f - 1) 1 k (by omega) (fun j x h1 h2 hx => ?_) (by omega)
      · rw [List.getElem?_append_right (by omega), lF, Nat.sub_self]; rfl
      · rw [List.getElem?_append_left (by omega), splW_get _ _ (by omega)] at hx
        rw [← Option.some.inj hx]; exact numD_ne (by decide) _
    rw [show ((1 : Nat) : Int) = 1 from rfl] at g
    rw [g, Option.bind_some]
    exact fin _ _ fun i hi => gap_nums k (by omega) l hB f t (by omega) (by omega) (fun i h1 h2 => by
      have := h3.2 (i - f) (by omega)
      rw [show f + (i - f) = i by omega, ar_nums _ _ (by omega)] at this
      exact this) i hi
theorem txtL_len1 (base : Nat) (sep : UInt8) (b : Nat) : ∀ us : List Nat, us ≠ [] → (∀ u ∈ us, (numD base u).length ≤ b) → (txtL base sep us).length + 1 ≤ us.length * (b + 1)
  | [], h, _ => absurd rfl h
  | [u], _, h => by have := h u (by simp); simp only [txtL, List.length_singleton]; omega
  | u :: v :: us, _, h => by
    have h1 := h u (by simp)
    have h2 := txtL_len1 base sep b (v :: us) (by simp) (fun x hx => h x (by simp at hx ⊢; right; exact hx))
    simp only [txtL, List.length_append, List.length_cons] at h2 ⊢
    have : (us.length + 1 + 1) * (b + 1) = (us.length + 1) * (b + 1) + (b + 1) := by rw [Nat.add_mul]; omega
    omega
theorem textA_39 (a : S_api_Addr) (h : adrB a) : (textA a).length ≤ 39 := by
  unfold textA
  split
  · split
    · have d0 := dec3 _ (ar_isB h.1 0); have d1 := dec3 _ (ar_isB h.1 1); have d2 := dec3 _ (ar_isB h.1 2); have d3 := dec3 _ (ar_isB h.1 3)
      rw [txt4_numD _ h.1]; simp; omega
    · split
      · have h16 := nums16 h.1
        have h3 := gapOf_ok (nums a.B)
        unfold txt6
        simp only
        by_cases hg : (gapOf (nums a.B)).2 < 2
        · rw [if_pos hg]
          have := txtL_len1 16 58 4 ((nums a.B).map Int.toNat) (by simp [nums]) (fun u hu => by
            obtain ⟨n, hn, rfl⟩ := List.mem_map.1 hu
            have := h16 n hn
            exact numD16_len _ (by omega))
          rw [List.length_map, nums_len] at this
          unfold wr; omega
        · rw [if_neg hg]
          have l1 := wr_len ((nums a.B).take (gapOf (nums a.B)).1) (h16.sub fun n hn => List.mem_of_mem_take hn)
          have l2 := wr_len ((nums a.B).drop ((gapOf (nums a.B)).1 + (gapOf (nums a.B)).2)) (h16.sub fun n hn => List.mem_of_mem_drop hn)
          rw [List.length_take, nums_len] at l1
          rw [List.length_drop, nums_len] at l2
          simp; omega
      · simp
  · simp
theorem rparse_text (k : Nat) (a : S_api_Addr) (h : adrB a) (hr : rightB a = true) (hk : 3000 ≤ k) : vineryref02_Parse.f k (textA a) = some (a, 0) := by
  have ht := rtext_any k a h (by omega)
  have hl := textA_39 a h
  unfold vineryref02_Parse.f
  rw [bstr_toList, bstr_toList, bsize]
  by_cases h0 : textA a = []
  · rw [if_pos (by simpa using h0)]
    have hs : a.Size = 0 := by
      rcases rightB_size hr with e | e | e
      · exact e
      · exfalso
        have := txt4_ne a.B h.1
        unfold textA at h0; rw [if_pos hr, if_pos e] at h0; exact this h0
      · exfalso
        have := txt6_colon a.B
        unfold textA at h0; rw [if_pos hr, if_neg (by omega), if_pos e] at h0; rw [h0] at this; cases this
    rw [right0 h hr hs]
  · rw [if_neg (by simpa using h0), if_neg (by simp; omega)]
    have hrr : vineryref02_rough.f k (textA a) = some a := by
      rcases rightB_size hr with e | e | e
      · exfalso; unfold textA at h0; rw [if_pos hr, if_neg (by omega), if_neg (by omega)] at h0; exact h0 rfl
      · have et : textA a = txt4 a.B := by unfold textA; rw [if_pos hr, if_pos e]
        rw [et]; exact rough4_ok k a h hr e (by omega)
      · have et : textA a = txt6 a.B := by unfold textA; rw [if_pos hr, if_neg (by omega), if_pos e]
        rw [et, rough6_ok k a.B h.1 h.2 (by omega)]
        cases a; simp only at e; rw [e]
    rw [hrr, Option.bind_some, ht, Option.bind_some, bstr_toList, if_neg (by simp)]
theorem rparse_any (k : Nat) (s : List UInt8) (hk : 3000 ≤ k) : ∃ a e, vineryref02_Parse.f k s = some (a, e) ∧ adrB a ∧ (e = 0 ∧ textA a = s ∧ rightB a = true ∨ e = 4 ∧ a = ⟨0, List.replicate 16 0⟩) := by
  have hz : adrB ⟨0, List.replicate 16 0⟩ := ⟨zeros_isB, by simp⟩
  unfold vineryref02_Parse.f
  rw [bstr_toList, bstr_toList, bsize]
  by_cases h0 : s = []
  · subst h0
    rw [if_pos (by decide)]
    refine ⟨_, _, rfl, hz, .inl ⟨rfl, ?_, by decide⟩⟩
    unfold textA; rw [if_pos (by decide), if_neg (by decide), if_neg (by decide)]
  · rw [if_neg (by simpa using h0)]
    by_cases hl : 39 < s.length
    · rw [if_pos (by simp; omega)]; exact ⟨_, _, rfl, hz, .inr ⟨rfl, rfl⟩⟩
    · rw [if_neg (by simp; omega)]
      obtain ⟨a, ha, za⟩ := rough_any k s (by omega) (by omega)
      rw [ha, Option.bind_some, rtext_any k a za (by omega), Option.bind_some, bstr_toList]
      by_cases e : textA a = s
      · rw [if_neg (by simpa using e)]
        refine ⟨_, _, rfl, za, .inl ⟨rfl, e, ?_⟩⟩
        by_cases hr : rightB a = true
        · exact hr
        · unfold textA at e; rw [if_neg hr] at e; exact absurd e.symm h0
      · rw [if_pos (by simpa using e)]; exact ⟨_, _, rfl, hz, .inr ⟨rfl, rfl⟩⟩
theorem parse_eq (k : Nat) (s : List UInt8) (hs : s.length ≤ 10000000) (hk : s.length + 3000 < k) : ∃ a e, addr_Parse.f k s = some (a, e) ∧ vineryref02_Parse.f k s = some (a, e) ∧ adrB a ∧ (e = 0 ∧ textA a = s ∧ rightB a = true ∨ e = 4 ∧ a = ⟨0, List.replicate 16 0⟩) := by
  obtain ⟨a, e, h1, z1, c1⟩ := parse_any k s hs hk
  obtain ⟨b, f, h2, z2, c2⟩ := rparse_any k s (by omega)
  rcases c1 with ⟨rfl, t1, r1⟩ | ⟨rfl, rfl, _⟩
  · have := rparse_text k a z1 r1 (by omega)
    rw [t1] at this
    exact ⟨a, 0, h1, this, z1, .inl ⟨rfl, t1, r1⟩⟩
  · rcases c2 with ⟨rfl, t2, r2⟩ | ⟨rfl, rfl⟩
    · have := parse_text k b z2 r2 (by omega)
      rw [t2, h1] at this
      exact absurd (Prod.mk.inj (Option.some.inj this)).2 (by decide)
    · exact ⟨_, _, h1, h2, z1, .inr ⟨rfl, rfl⟩⟩
/-! prefixes, as the document says -/
theorem or_u8 (x y : Int) (hx : 0 ≤ x ∧ x ≤ 255) (hy : 0 ≤ y ∧ y ≤ 255) : IntKind.u8.wrap (BitVec.ofInt IntKind.u8.bits x ||| BitVec.ofInt IntKind.u8.bits y).toNat = ((x.toNat ||| y.toNat : Nat) : Int) := by
  rw [BitVec.toNat_or, BitVec.toNat_ofInt, BitVec.toNat_ofInt]
  have e : IntKind.u8.bits = 8 := rfl
  rw [e]
  have h1 : (x % ((2 ^ 8 : Nat) : Int)).toNat = x.toNat := by
    have : ((2 ^ 8 : Nat) : Int) = 256 := rfl
    omega
  have h2 : (y % ((2 ^ 8 : Nat) : Int)).toNat = y.toNat := by
    have : ((2 ^ 8 : Nat) : Int) = 256 := rfl
    omega
  rw [h1, h2]
  have h3 : x.toNat ||| y.toNat < 2 ^ 8 := Nat.or_lt_two_pow (by omega) (by omega)
  rw [IntKind.wrap_u8]; omega
theorem rcut_step (l : List Int) (hB : isB l) (i : Nat) (hi : i < 128) (hb : bitL l i = true) :
    (arL 16 (cutL l i)).set (i / 8) (IntKind.u8.wrap (BitVec.ofInt IntKind.u8.bits (ar (cutL l i) (i / 8)) ||| BitVec.ofInt IntKind.u8.bits (IntKind.u8.wrap ((1 : Int) * 2 ^ (7 - i % 8)))).toNat) = cutL l ((i + 1 : Nat) : Int) := by
  have hp : ∀ r : Fin 8, IntKind.u8.wrap ((1 : Int) * 2 ^ r.val) = ((2 ^ r.val : Nat) : Int) := by decide
  have hp2 : ∀ r : Fin 8, (2 ^ r.val : Nat) ≤ 255 := by decide
  have e2 := hp ⟨7 - i % 8, by omega⟩
  have e3 := hp2 ⟨7 - i % 8, by omega⟩
  simp only at e2 e3
  have hc := cutL_isB hB (i : Int)
  have ha := ar_isB hc (i / 8)
  rw [e2, or_u8 _ _ ha ⟨Int.natCast_nonneg _, Int.ofNat_le.2 e3⟩, Int.toNat_natCast, arL16 (cutL_len _ _)]
  have hlt : (ar (cutL l i) (i / 8)).toNat ||| 2 ^ (7 - i % 8) < 2 ^ 8 := Nat.or_lt_two_pow (by omega) (by omega)
  refine bits_ext (by rw [List.length_set, cutL_len]) (cutL_len _ _) ?_ (cutL_isB hB _) fun j hj => ?_
  · intro y hy
    rcases List.mem_or_eq_of_mem_set hy with hy | rfl
    · exact hc y hy
    · omega
  · rw [cut_bit _ _ _ hj]
    have eb : bitL ((cutL l i).set (i / 8) (((ar (cutL l i) (i / 8)).toNat ||| 2 ^ (7 - i % 8) : Nat) : Int)) j = (bitL (cutL l i) j || decide (j = i)) := by
      unfold bitL
      rw [ar_setD _ _ _ _ (by rw [cutL_len]; omega)]
      by_cases h : j / 8 = i / 8
      · rw [if_pos h, Int.toNat_natCast, Nat.testBit_or, Nat.testBit_two_pow, h]
        congr 1
        rw [Bool.eq_iff_iff, decide_eq_true_eq, decide_eq_true_eq]
        omega
      · rw [if_neg h]
        have : decide (j = i) = false := by rw [decide_eq_false_iff_not]; omega
        rw [this, Bool.or_false]
    rw [eb, cut_bit _ _ _ hj]
    by_cases h : j = i
    · subst h; rw [hb, decide_eq_true (show (j : Int) < ((j + 1 : Nat) : Int) by omega)]; simp
    · rw [decide_eq_false h, Bool.or_false]
      congr 1
      rw [Bool.eq_iff_iff, decide_eq_true_eq, decide_eq_true_eq]
      omega
theorem rcut_skip (l : List Int) (hB : isB l) (i : Nat) (hb : bitL l i = false) : cutL l (i : Int) = cutL l ((i + 1 : Nat) : Int) := by
  refine bits_ext (cutL_len _ _) (cutL_len _ _) (cutL_isB hB _) (cutL_isB hB _) fun j hj => ?_
  rw [cut_bit _ _ _ hj, cut_bit _ _ _ hj]
  by_cases h : j = i
  · subst h; rw [hb]; rfl
  · congr 1
    rw [Bool.eq_iff_iff, decide_eq_true_eq, decide_eq_true_eq]
    omega
theorem rcut_go (a : S_api_Addr) (hB : isB a.B) (b : Nat) (hb : b ≤ 128) : ∀ (m i k : Nat), i + m = b → m < k → vineryref02_Cut.l0 a (b : Int) k (i : Int) (cutL a.B i) = some (cutL a.B b)
  | 0, i, k, hi, hk => by
    obtain ⟨k, rfl⟩ : ∃ k', k = k' + 1 := ⟨k - 1, by omega⟩
    rw [vineryref02_Cut.l0, if_neg (by simp; omega), show i = b by omega]
  | m + 1, i, k, hi, hk => by
    obtain ⟨k, rfl⟩ : ∃ k', k = k' + 1 := ⟨k - 1, by omega⟩
    have e3 : IntKind.i64.wrap ((i : Int) + 1) = ((i + 1 : Nat) : Int) := by rw [w64 _ (by omega)]; omega
    have e8 : IntKind.i64.wrap (Int.tdiv (i : Int) (8 : Int)) = ((i / 8 : Nat) : Int) := by
      rw [show (8 : Int) = ((8 : Nat) : Int) from rfl, tdiv_nat, w64 _ (by omega)]
    have e7 : IntKind.i64.wrap ((7 : Int) - Int.tmod (i : Int) (8 : Int)) = ((7 - i % 8 : Nat) : Int) := by
      rw [show (8 : Int) = ((8 : Nat) : Int) from rfl, tmod_nat, w64 _ (by omega)]; omega
    rw [vineryref02_Cut.l0, if_pos (by simp; omega), rbit_ok _ hB i (by omega), Option.bind_some, e3]
    cases hbit : bitL a.B i with
    | true =>
      rw [if_pos rfl, e8, e7, if_pos (by omega), if_pos (by omega), if_pos (by omega), Int.toNat_natCast, Int.toNat_natCast, Nat.min_eq_left (by have : IntKind.u8.bits = 8 := rfl; omega), rcut_step _ hB i (by omega) hbit]
      exact rcut_go a hB b hb m (i + 1) k (by omega) (by omega)
    | false =>
      rw [if_neg (by simp), rcut_skip _ hB i hbit]
      exact rcut_go a hB b hb m (i + 1) k (by omega) (by omega)
theorem rCut_ok (k : Nat) (a : S_api_Addr) (h : adrB a) (bits : Int) (hk : 200 ≤ k) : vineryref02_Cut.f k a bits = some (if cutOk a bits = true then (cutP a bits, 0) else (⟨⟨0, zs16⟩, 0⟩, 1)) := by
  obtain ⟨k, rfl⟩ : ∃ k', k = k' + 20 := ⟨k - 20, by omega⟩
  unfold vineryref02_Cut.f
  rw [rright_ok, Option.bind_some]
  have c : ((if (!(rightB a)) = true then some (true : Bool) else (if (a.Size == (0 : Int)) = true then some (true : Bool) else (if (decide (bits < (0 : Int))) = true then some (true : Bool) else some (decide (bits > (IntKind.i64.wrap ((8 : Int) * a.Size))) : Bool))))) = some (!(cutOk a bits)) := by
    unfold cutOk
    cases hr : rightB a with
    | false => rfl
    | true =>
      have hs := rightB_size hr
      rw [w64 _ (by omega)]
      by_cases h0 : a.Size = 0
      · simp [h0]
      · by_cases h1 : bits < 0
        · have : decide (0 ≤ bits) = false := by simp; omega
          simp [h0, h1, this]
        · have : decide (0 ≤ bits) = true := by simp; omega
          simp [h0, h1, this]
          rw [Bool.eq_iff_iff]; simp
          exact fun e => absurd e h0
  rw [c, Option.bind_some]
  by_cases hc : cutOk a bits = true
  · have hr := cutOk_range hc
    rw [hc, if_neg (by simp), if_pos rfl]
    have g := rcut_go a h.1 bits.toNat (by omega) bits.toNat 0 (k + 20) (by omega) (by omega)
    have e0 : cutL a.B ((0 : Nat) : Int) = List.replicate 16 0 := by
      refine ar_ext (cutL_len _ _) (by simp) fun j hj => ?_
      refine (?_ : ar (cutL a.B ((0 : Nat) : Int)) j = 0).trans ?_
      · unfold cutL
        rw [cutTo_ar _ _ _ _ hj, if_pos hj]
        have : maskI ((((0 : Nat) : Int)) - 8 * (j : Int)) = 0 := by unfold maskI; rw [if_pos (by omega)]
        rw [this]; unfold andI; simp
      · rw [ar_at _ _ (by rw [List.length_replicate]; exact hj)]; exact (List.getElem_replicate _).symm
    rw [e0, show ((bits.toNat : Nat) : Int) = bits by omega, show ((0 : Nat) : Int) = 0 from rfl] at g
    rw [g]; rfl
  · have : cutOk a bits = false := by simpa using hc
    rw [this]; rfl
theorem rpretext_ok (k : Nat) (p : S_api_Prefix) (h : adrB p.Addr) (hk : 200 ≤ k) : vineryref02_PrefixText.f k p = some (preT p) := by
  unfold vineryref02_PrefixText.f preT
  obtain ⟨k', rfl⟩ : ∃ k', k = k' + 150 := ⟨k - 150, by omega⟩
  rw [rrp_ok k' p h.1 h.2, Option.bind_some]
  by_cases hr : rightP p = true
  · have hg := rightP_range hr
    have hl := textA_len p.Addr h
    have hn := numD10_len p.Bits.toNat
    rw [if_neg (by simp [hr]), if_pos hr, rtext_any _ p.Addr h hk, Option.bind_some, if_pos (by simp; omega), show (10 : Int) = ((10 : Nat) : Int) from rfl, number64 10 (by decide) (by decide) _ (by omega) _ (by omega), Option.bind_some, if_pos (by simp; omega)]
    simp
  · rw [if_neg hr, if_pos (by simpa using hr)]
theorem rparsepre_any (k : Nat) (s : List UInt8) (hs : s.length ≤ 10000000) (hk : s.length + 3000 < k) : ∃ p e, vineryref02_ParsePrefix.f k s = some (p, e) ∧ adrB p.Addr ∧ (e = 0 ∧ preT p = s ∧ rightP p = true ∨ e = 4 ∧ p = ⟨⟨0, List.replicate 16 0⟩, 0⟩) := by
  have hz : adrB ⟨0, List.replicate 16 0⟩ := ⟨zeros_isB, by simp⟩
  unfold vineryref02_ParsePrefix.f
  have h1 := rsplit_ok 47 s k hs (by omega)
  rw [show (47 : Int) = (((47 : UInt8).toNat : Nat) : Int) from rfl, h1, Option.bind_some, bsize, bstr_toList, bstr_toList]
  by_cases hl : (s.length : Int) > 43
  · rw [if_pos (by simp [hl])]; exact ⟨_, _, rfl, hz, .inr ⟨rfl, rfl⟩⟩
  · have d1 : decide ((s.length : Int) > 43) = false := by simpa using hl
    rw [d1]
    by_cases h2 : (spl 47 s).length = 2
    · rw [if_neg (by simp [h2]), if_pos (by omega)]
      obtain ⟨a, e, q, z, c⟩ := rparse_any k (rd (spl 47 s) 0) (by omega)
      obtain ⟨n, hn⟩ := digits_any k (rd (spl 47 s) 1) 10 3 (by decide) (by omega)
      rw [q, Option.bind_some, if_pos (by omega), hn, Option.bind_some, Option.bind_some]
      simp only
      by_cases he : e = 0
      · subst he
        rw [if_neg (by simp)]
        by_cases h0 : s = []
        · rw [if_pos (by simp [h0]), Option.bind_some, if_pos rfl]; exact ⟨_, _, rfl, hz, .inr ⟨rfl, rfl⟩⟩
        · rw [if_neg (by simpa using h0), rpretext_ok k ⟨a, n⟩ z (by omega), Option.bind_some, Option.bind_some, bstr_toList]
          by_cases e : preT ⟨a, n⟩ = s
          · rw [if_neg (by simpa using e)]
            refine ⟨_, _, rfl, z, .inl ⟨rfl, e, ?_⟩⟩
            by_cases hr : rightP ⟨a, n⟩ = true
            · exact hr
            · unfold preT at e; rw [if_neg hr] at e; exact absurd e.symm h0
          · rw [if_pos (by simpa using e)]; exact ⟨_, _, rfl, hz, .inr ⟨rfl, rfl⟩⟩
      · rw [if_pos (by simp [he]), Option.bind_some, if_pos rfl]; exact ⟨_, _, rfl, hz, .inr ⟨rfl, rfl⟩⟩
    · rw [if_pos (by simp; omega)]; exact ⟨_, _, rfl, hz, .inr ⟨rfl, rfl⟩⟩
theorem rparsepre_text (k : Nat) (p : S_api_Prefix) (h : adrB p.Addr) (hr : rightP p = true) (hk : 4000 ≤ k) : vineryref02_ParsePrefix.f k (preT p) = some (p, 0) := by
  have hg := rightP_range hr
  have hl := textA_39 p.Addr h
  have hn := dec3 p.Bits (by omega)
  have et : preT p = textA p.Addr ++ 47 :: numD 10 p.Bits.toNat := by unfold preT; rw [if_pos hr]
  have htx := rpretext_ok k p h (by omega)
  have hlen : (preT p).length ≤ 43 := by rw [et]; simp; omega
  have hne : preT p ≠ [] := by rw [et]; simp
  unfold vineryref02_ParsePrefix.f
  have h1 := rsplit_ok 47 (preT p) k (by omega) (by omega)
  have es : spl 47 (preT p) = [textA p.Addr, numD 10 p.Bits.toNat] := by
    rw [et, spl_app _ (textA_no p.Addr h), spl_free (numD_free (by decide) (by decide) _ 47 (by decide))]
  have d1 : decide (((preT p).length : Int) > 43) = false := by simp; omega
  have r0 : rd [textA p.Addr, numD 10 p.Bits.toNat] 0 = textA p.Addr := rfl
  have r1 : rd [textA p.Addr, numD 10 p.Bits.toNat] 1 = numD 10 p.Bits.toNat := rfl
  have hd := digits_ok k 10 (by decide) (by decide) p.Bits.toNat 3 (by omega) (by omega) (by omega) (by omega)
  rw [show ((p.Bits.toNat : Nat) : Int) = p.Bits by omega] at hd
  rw [show (47 : Int) = (((47 : UInt8).toNat : Nat) : Int) from rfl, h1, Option.bind_some, bsize, bstr_toList, bstr_toList, d1, es, if_neg (by simp), if_pos (by simp), r0, r1, rparse_text k p.Addr h hg.1 (by omega), Option.bind_some, if_pos (by simp), show (10 : Int) = ((10 : Nat) : Int) from rfl, hd, Option.bind_some, Option.bind_some]
  simp only
  rw [if_neg (by simp), if_neg (by simpa using hne), htx, Option.bind_some, Option.bind_some, bstr_toList, if_neg (by simp)]
theorem parsepre_eq (k : Nat) (s : List UInt8) (hs : s.length ≤ 10000000) (hk : s.length + 4000 < k) : ∃ p e, addr_ParsePrefix.f k s = some (p, e) ∧ vineryref02_ParsePrefix.f k s = some (p, e) ∧ adrB p.Addr := by
  obtain ⟨a, e, h1, z1, c1⟩ := parsepre_any k s hs (by omega)
  obtain ⟨b, f, h2, z2, c2⟩ := rparsepre_any k s hs (by omega)
  rcases c1 with ⟨rfl, t1, r1⟩ | ⟨rfl, rfl⟩
  · have := rparsepre_text k a z1 r1 (by omega)
    rw [t1] at this
    exact ⟨a, 0, h1, this, z1⟩
  · rcases c2 with ⟨rfl, t2, r2⟩ | ⟨rfl, rfl⟩
    · have := parsepre_text k b z2 r2 (by omega)
      rw [t2, h1] at this
      exact absurd (Prod.mk.inj (Option.some.inj this)).2 (by decide)
    · exact ⟨_, _, h1, h2, z1⟩
theorem small_ok (k : Nat) : vinerylaw02_small.f (k + 90) = some true := by kernel_rfl
theorem AddrPrefixes.law (a : S_api_Addr) (ha : okS_api_Addr a) (bits : Int) (hb : okI .i64 bits) (p : S_api_Prefix) (hp : okS_api_Prefix p) (s : List UInt8) (hs : okS s) (hlen : s.length ≤ 1048576) : ∃ k, vinerylaw02_AddrPrefixes.f k a bits p s = some true := by
  have za : adrB a := ⟨okA_isB ha.2, ha.2.1⟩
  have zp : adrB p.Addr := ⟨okA_isB hp.1.2, hp.1.2.1⟩
  refine ⟨s.length + 6000, ?_⟩
  generalize hk : s.length + 6000 = k
  obtain ⟨k', rfl⟩ : ∃ k', k = k' + 90 := ⟨k - 90, by omega⟩
  obtain ⟨q, e, p1, p2, z⟩ := parsepre_eq (k' + 90) s (by omega) (by omega)
  have t1 := pretext_ok (k' + 90) p zp (by omega)
  have t2 := rpretext_ok (k' + 90) p zp (by omega)
  have c1 : addr_Cut.f (k' + 90) a bits = some _ := Cut_ok (k' + 70) a za.1 za.2 bits
  have c2 := rCut_ok (k' + 90) a za bits (by omega)
  obtain ⟨w, hw, lw⟩ : ∃ w : S_api_Prefix × Int, (if cutOk a bits = true then (cutP a bits, 0) else (⟨⟨0, zs16⟩, 0⟩, 1)) = w ∧ w.1.Addr.B.length = 16 := by
    refine ⟨_, rfl, ?_⟩
    split
    · exact cutL_len _ _
    · rfl
  rw [hw] at c1 c2
  unfold vinerylaw02_AddrPrefixes.f
  rw [small_ok k', Option.bind_some, c1, Option.bind_some, c2, Option.bind_some, p1, Option.bind_some, p2, Option.bind_some, if_pos rfl]
  simp only
  rw [pre_eq lw lw, if_pos (by simp), if_pos (by simp), pre_eq z.2 z.2, if_pos (by simp), if_pos (by simp), t1, Option.bind_some, t2, Option.bind_some]
  simp
end Go.E
