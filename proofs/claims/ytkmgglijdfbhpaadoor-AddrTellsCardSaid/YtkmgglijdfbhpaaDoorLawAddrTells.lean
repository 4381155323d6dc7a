/- The plain law: what the walk computes is true, whatever the input. -/
import Derived.Test.YtkmgglijdfbhpaaDoorGenAddrTells
import Derived.Test.YtkmgglijdfbhpaaDoorEngR
set_option linter.unusedVariables false
set_option linter.unusedSimpArgs false
namespace Go.E
theorem bstr_toList (l : List UInt8) : (bstr l).toList = l := by rw [ByteArray.toList_eq]; simp [bstr]
theorem cmp_range : ∀ (a b : List UInt8), Go.Lib.compareBytes a b = -1 ∨ Go.Lib.compareBytes a b = 0 ∨ Go.Lib.compareBytes a b = 1
  | [], [] => .inr (.inl rfl)
  | [], _ :: _ => .inl rfl
  | _ :: _, [] => .inr (.inr rfl)
  | x :: xs, y :: ys => by
    unfold Go.Lib.compareBytes
    split
    · exact .inl rfl
    · split
      · exact .inr (.inr rfl)
      · exact cmp_range xs ys
theorem u8_tri {x y : UInt8} (h : ¬ x < y) (h' : ¬ y < x) : x = y := UInt8.le_antisymm (UInt8.not_lt.1 h') (UInt8.not_lt.1 h)
theorem cb_cons (x y : UInt8) (xs ys : List UInt8) : Go.Lib.compareBytes (x :: xs) (y :: ys) = if x < y then -1 else if y < x then 1 else Go.Lib.compareBytes xs ys := rfl
theorem cmp_neg : ∀ (a b : List UInt8), Go.Lib.compareBytes b a = - Go.Lib.compareBytes a b
  | [], [] => rfl
  | [], _ :: _ => rfl
  | _ :: _, [] => rfl
  | x :: xs, y :: ys => by
    rw [cb_cons, cb_cons]
    by_cases h : x < y
    · rw [if_pos h, if_neg (UInt8.lt_asymm h), if_pos h]; rfl
    · rw [if_neg h, if_neg h]
      by_cases h' : y < x
      · rw [if_pos h', if_pos h']
      · rw [if_neg h', if_neg h', cmp_neg xs ys]
theorem cmp_eq0 : ∀ (a b : List UInt8), Go.Lib.compareBytes a b = 0 ↔ a = b
  | [], [] => by simp [Go.Lib.compareBytes]
  | [], _ :: _ => by simp [Go.Lib.compareBytes]
  | _ :: _, [] => by simp [Go.Lib.compareBytes]
  | x :: xs, y :: ys => by
    rw [cb_cons]
    by_cases h : x < y
    · rw [if_pos h]
      refine ⟨fun h => absurd h (by decide), fun e => ?_⟩
      injection e with e _; subst e; exact absurd h (UInt8.lt_irrefl _)
    · rw [if_neg h]
      by_cases h' : y < x
      · rw [if_pos h']
        refine ⟨fun h => absurd h (by decide), fun e => ?_⟩
        injection e with e _; subst e; exact absurd h' (UInt8.lt_irrefl _)
      · rw [if_neg h', cmp_eq0 xs ys, u8_tri h h']; simp
theorem cmp_less : ∀ (a b : List UInt8), decide (Go.Lib.compareBytes a b < 0) = Op.bytesLess a b
  | [], [] => rfl
  | [], _ :: _ => rfl
  | _ :: _, [] => rfl
  | x :: xs, y :: ys => by
    rw [cb_cons]
    unfold Op.bytesLess
    by_cases h : x < y
    · simp [h]
    · rw [if_neg h]
      by_cases h' : y < x
      · rw [if_pos h']
        have : x ≠ y := fun e => by subst e; exact UInt8.lt_irrefl _ h'
        simp [h, this]
      · rw [if_neg h', cmp_less xs ys]
        have := u8_tri h h'
        subst this
        simp [h]
theorem cb_nc (y : UInt8) (ys : List UInt8) : Go.Lib.compareBytes [] (y :: ys) = -1 := rfl
theorem cb_cn (y : UInt8) (ys : List UInt8) : Go.Lib.compareBytes (y :: ys) [] = 1 := rfl
theorem cmp_trans : ∀ (a b c : List UInt8), Go.Lib.compareBytes a b ≤ 0 → Go.Lib.compareBytes b c ≤ 0 → Go.Lib.compareBytes a c ≤ 0 ∧ (Go.Lib.compareBytes a b < 0 ∨ Go.Lib.compareBytes b c < 0 → Go.Lib.compareBytes a c < 0)
  | [], [], c => fun _ h => ⟨h, fun h => h.elim (fun h => absurd h (by decide)) id⟩
  | [], _ :: _, [] => fun _ h => by rw [cb_cn] at h; exact absurd h (by decide)
  | [], _ :: _, _ :: _ => fun _ _ => by rw [cb_nc]; exact ⟨by decide, fun _ => by decide⟩
  | _ :: _, [], _ => fun h _ => by rw [cb_cn] at h; exact absurd h (by decide)
  | _ :: _, _ :: _, [] => fun _ h => by rw [cb_cn] at h; exact absurd h (by decide)
  | x :: xs, y :: ys, z :: zs => by
    rw [cb_cons, cb_cons, cb_cons]
    by_cases h1 : x < y
    · by_cases h2 : y < z
      · rw [if_pos h1, if_pos h2, if_pos (UInt8.lt_trans h1 h2)]; exact fun _ _ => ⟨by decide, fun _ => by decide⟩
      · rw [if_pos h1, if_neg h2]
        by_cases h3 : z < y
        · rw [if_pos h3]; exact fun _ h => absurd h (by decide)
        · have := u8_tri h2 h3; subst this
          rw [if_neg h3, if_pos h1]; exact fun _ _ => ⟨by decide, fun _ => by decide⟩
    · rw [if_neg h1]
      by_cases h3 : y < x
      · rw [if_pos h3]; exact fun h => absurd h (by decide)
      · have := u8_tri h1 h3; subst this
        rw [if_neg h3]
        by_cases h2 : x < z
        · rw [if_pos h2, if_pos h2]; exact fun _ _ => ⟨by decide, fun _ => by decide⟩
        · rw [if_neg h2]
          by_cases h4 : z < x
          · rw [if_pos h4]; exact fun _ h => absurd h (by decide)
          · rw [if_neg h4, if_neg h2, if_neg h4]; exact cmp_trans xs ys zs
/-! orders -/
structure IsCmp {α : Type} (c : α → α → Int) : Prop where
  range : ∀ a b, c a b = -1 ∨ c a b = 0 ∨ c a b = 1
  neg : ∀ a b, c b a = - c a b
  trans : ∀ a b d, c a b ≤ 0 → c b d ≤ 0 → c a d ≤ 0 ∧ (c a b < 0 ∨ c b d < 0 → c a d < 0)
def icmp (a b : Int) : Int := if a < b then -1 else if a > b then 1 else 0
theorem icmp_is : IsCmp icmp := by
  refine ⟨fun a b => ?_, fun a b => ?_, fun a b d => ?_⟩
  · unfold icmp; split <;> (try split) <;> simp
  · unfold icmp; (repeat' split) <;> omega
  · unfold icmp; (repeat' split) <;> omega
theorem IsCmp.by {α β : Type} {c : β → β → Int} (h : IsCmp c) (f : α → β) : IsCmp (fun a b => c (f a) (f b)) := ⟨fun _ _ => h.range _ _, fun _ _ => h.neg _ _, fun _ _ _ => h.trans _ _ _⟩
theorem bytes_is : IsCmp Go.Lib.compareBytes := ⟨cmp_range, cmp_neg, cmp_trans⟩
def orC {α : Type} (c d : α → α → Int) (a b : α) : Int := if c a b ≠ 0 then c a b else d a b
theorem IsCmp.or {α : Type} {c d : α → α → Int} (h : IsCmp c) (k : IsCmp d) : IsCmp (orC c d) := by
  refine ⟨fun a b => ?_, fun a b => ?_, fun x y z => ?_⟩
  · unfold orC; split
    · exact h.range a b
    · exact k.range a b
  · unfold orC
    rw [h.neg a b, k.neg a b]
    split <;> split <;> omega
  · have t := h.trans x y z
    have t' := h.trans z y x
    have u := k.trans x y z
    have n1 := h.neg x y; have n2 := h.neg y z; have n3 := h.neg x z
    unfold orC
    (repeat' split) <;> omega
theorem IsCmp.refl {α : Type} {c : α → α → Int} (h : IsCmp c) (a : α) : c a a = 0 := by have := h.neg a a; omega
theorem w64 (n : Int) (h : -9223372036854775808 ≤ n ∧ n ≤ 9223372036854775807) : IntKind.i64.wrap n = n := by rw [IntKind.wrap_i64]; omega
def isB (l : List Int) : Prop := ∀ y ∈ l, 0 ≤ y ∧ y ≤ 255
theorem okL_isB {l : List Int} (h : okL 1 (okI .u8) l) : isB l := fun y hy => by
  have := h.2 y hy
  have e1 : IntKind.u8.min = 0 := rfl
  have e2 : IntKind.u8.max = 255 := rfl
  unfold okI at this
  omega
theorem okA_isB {l : List Int} {n : Nat} (h : okA .u8 n l) : isB l := fun y hy => by
  have := h.2 y hy
  have e1 : IntKind.u8.min = 0 := rfl
  have e2 : IntKind.u8.max = 255 := rfl
  unfold okI at this
  omega
theorem okL_len {l : List Int} {ok : Int → Prop} (h : okL 1 ok l) : l.length ≤ 140737488351232 := by have := h.1; unfold reachBytes at this; omega
theorem isB.app {a b : List Int} (h : isB a) (h' : isB b) : isB (a ++ b) := fun y hy => (List.mem_append.1 hy).elim (h y) (h' y)
theorem b2s_inj : ∀ {a b : List Int}, isB a → isB b → b2s a = b2s b → a = b
  | [], [], _, _, _ => rfl
  | [], _ :: _, _, _, h => by simp [b2s] at h
  | _ :: _, [], _, _, h => by simp [b2s] at h
  | x :: a, y :: b, ha, hb, h => by
    simp only [b2s, List.map_cons, List.cons.injEq] at h
    have h1 := ha x (by simp); have h2 := hb y (by simp)
    have e := congrArg UInt8.toNat h.1
    rw [UInt8.toNat_ofNat', UInt8.toNat_ofNat'] at e
    rw [b2s_inj (fun z hz => ha z (by simp [hz])) (fun z hz => hb z (by simp [hz])) h.2, show x = y by omega]
theorem b2s_beq {a b : List Int} (ha : isB a) (hb : isB b) : (b2s a == b2s b) = (a == b) := by
  rw [Bool.eq_iff_iff]
  simp only [beq_iff_eq]
  exact ⟨b2s_inj ha hb, fun e => by rw [e]⟩
theorem rd_at (l : List Int) (i : Nat) (hi : i < l.length) : rd l (i : Int) = l[i] := by simp [rd, List.getD, hi]
theorem ar_at (l : List Int) (i : Nat) (hi : i < l.length) : ar l i = l[i] := by simp [ar, List.getD, hi]
theorem arL_self (l : List Int) : arL l.length l = l := by
  apply List.ext_getElem
  · simp [arL]
  · intro i h1 h2
    simp [arL, ar_at l i h2]
/-! trimming zeros -/
theorem tr_nil (k : Nat) : bytes_trimRightByte.l0 0 (k + 1) [] = some [] := by unfold bytes_trimRightByte.l0; simp
theorem tr_snoc (k : Nat) (y : List Int) (c : Int) (h : y.length ≤ 100) : bytes_trimRightByte.l0 0 (k + 1) (y ++ [c]) = if c = 0 then bytes_trimRightByte.l0 0 k y else some (y ++ [c]) := by
  rw [bytes_trimRightByte.l0]
  have hl : (y ++ [c]).length = y.length + 1 := by simp
  have e : IntKind.i64.wrap (((y ++ [c]).length : Int) - 1) = (y.length : Int) := by rw [hl, IntKind.wrap_i64]; omega
  have er : rd (y ++ [c]) (y.length : Int) = c := by rw [rd_at _ _ (by simp)]; simp
  rw [e, er, if_pos (by simp <;> omega), if_pos (by rw [hl]; omega), Option.bind_some]
  by_cases hc : c = 0
  · rw [if_pos (by simpa using hc), if_pos (by rw [hl]; simp <;> omega), if_pos hc]
    simp
  · rw [if_neg (by simpa using hc), if_neg hc]
theorem tr_ok : ∀ (n k : Nat) (x : List Int), x.length = n → n < k → n ≤ 100 → ∃ r, bytes_trimRightByte.l0 0 k x = some r ∧ r.length ≤ x.length ∧ r.all (· == 0) = x.all (· == 0)
  | 0, k, x, h, hk, _ => by
    obtain ⟨k, rfl⟩ : ∃ k', k = k' + 1 := ⟨k - 1, by omega⟩
    obtain rfl := List.eq_nil_of_length_eq_zero h
    exact ⟨[], tr_nil k, Nat.le_refl _, rfl⟩
  | n + 1, k, x, h, hk, hn => by
    obtain ⟨k, rfl⟩ : ∃ k', k = k' + 1 := ⟨k - 1, by omega⟩
    have hne : x ≠ [] := by intro e; subst e; simp at h
    have hx : x = x.dropLast ++ [x.getLast hne] := (List.dropLast_concat_getLast hne).symm
    have hd : x.dropLast.length = n := by simp [h]
    generalize x.dropLast = y at hx hd
    generalize x.getLast hne = c at hx
    subst hx
    rw [tr_snoc k y c (by omega)]
    by_cases hc : c = 0
    · obtain ⟨r, h1, h2, h3⟩ := tr_ok n k y hd (by omega) (by omega)
      exact ⟨r, by rw [if_pos hc]; exact h1, by simp; omega, by rw [h3]; simp [hc]⟩
    · exact ⟨_, if_neg hc, Nat.le_refl _, rfl⟩
theorem tl_nil (k : Nat) : bytes_trimLeftByte.l0 0 (k + 1) [] = some [] := by unfold bytes_trimLeftByte.l0; simp
theorem tl_cons (k : Nat) (y : List Int) (c : Int) : bytes_trimLeftByte.l0 0 (k + 1) (c :: y) = if c = 0 then bytes_trimLeftByte.l0 0 k y else some (c :: y) := by
  rw [bytes_trimLeftByte.l0]
  have er : rd (c :: y) 0 = c := rfl
  rw [er, if_pos (by simp <;> omega), if_pos (by simp <;> omega), Option.bind_some]
  by_cases hc : c = 0
  · rw [if_pos (by simpa using hc), if_pos (by simp <;> omega), if_pos hc]
    simp
  · rw [if_neg (by simpa using hc), if_neg hc]
theorem tl_ok : ∀ (x : List Int) (k : Nat), x.length < k → ∃ r, bytes_trimLeftByte.l0 0 k x = some r ∧ (((r.length : Int) == 0) = x.all (· == 0))
  | [], k, hk => by
    obtain ⟨k, rfl⟩ : ∃ k', k = k' + 1 := ⟨k - 1, by omega⟩
    exact ⟨[], tl_nil k, rfl⟩
  | c :: y, k, hk => by
    obtain ⟨k, rfl⟩ : ∃ k', k = k' + 1 := ⟨k - 1, by omega⟩
    rw [tl_cons]
    by_cases hc : c = 0
    · obtain ⟨r, h1, h2⟩ := tl_ok y k (by simp at hk; omega)
      exact ⟨r, by rw [if_pos hc]; exact h1, by rw [h2]; simp [hc]⟩
    · refine ⟨_, if_neg hc, ?_⟩
      have : (c == 0) = false := by simpa using hc
      simp only [List.all_cons, this, Bool.false_and]
      simp
      omega
theorem trim_ok (k : Nat) (x : List Int) (hx : x.length ≤ 16) : ∃ r, bytes_Trim.f (k + 20) x [0] = some r ∧ (((r.length : Int) == 0) = x.all (· == 0)) := by
  by_cases h0 : x.length = 0
  · obtain rfl := List.eq_nil_of_length_eq_zero h0
    exact ⟨[], rfl, rfl⟩
  · obtain ⟨r, h1, h2, h3⟩ := tr_ok x.length (k + 20) x rfl (by omega) (by omega)
    obtain ⟨r', h4, h5⟩ := tl_ok r (k + 20) (by omega)
    have e : bytes_Trim.f (k + 20) x [0] = (bytes_trimRightByte.f (k + 20) x 0).bind fun t21 => (bytes_trimLeftByte.f (k + 20) t21 0).bind fun t24 => some t24 := by
      unfold bytes_Trim.f
      have hs : (((bstr ([0] : List UInt8)).size : Int) == (1 : Int)) = true := rfl
      have ez : ((([0] : List UInt8).getD (Int.toNat (0 : Int)) 0).toNat : Int) = 0 := rfl
      rw [if_neg (by simpa using h0), if_neg (by rw [bstr_toList, bstr_toList]; decide), if_pos hs, ez, if_pos (by decide), Option.bind_some, if_pos (by decide), if_pos (by decide), if_pos (by decide)]
    rw [e]
    unfold bytes_trimRightByte.f bytes_trimLeftByte.f
    rw [h1, Option.bind_some, Option.bind_some, h4, Option.bind_some]
    by_cases hr : r'.length = 0
    · obtain rfl := List.eq_nil_of_length_eq_zero hr
      exact ⟨[], rfl, by rw [← h3, ← h5]⟩
    · rw [if_neg (by simpa using hr)]
      exact ⟨r', rfl, by rw [h5, h3]⟩
/-! addresses -/
def isSz (n : Int) : Bool := n == 0 || n == 4 || n == 16
def rightB (a : S_api_Addr) : Bool := isSz a.Size && ((arL 16 a.B).drop a.Size.toNat).all (· == 0)
theorem isSz_or {n : Int} (h : isSz n = true) : n = 0 ∨ n = 4 ∨ n = 16 := by
  unfold isSz at h
  simp only [Bool.or_eq_true, beq_iff_eq] at h
  omega
theorem right_go (k : Nat) (a : S_api_Addr) (h : a.Size = 0 ∨ a.Size = 4 ∨ a.Size = 16) : addr_Right.f (k + 20) a = some (((arL 16 a.B).drop a.Size.toNat).all (· == 0)) := by
  have h16 : (arL 16 a.B).length = 16 := arL_length _ _
  have ht : (arL 16 a.B).take (Int.toNat 16) = arL 16 a.B := by rw [List.take_of_length_le]; rw [h16]; exact Nat.le_refl _
  obtain ⟨r, h1, h2⟩ := trim_ok k ((arL 16 a.B).drop a.Size.toNat) (by rw [List.length_drop, h16]; omega)
  have hc : (if (a.Size == (0 : Int)) = true then some (a.Size == (0 : Int) : Bool) else (if (a.Size == (4 : Int)) = true then some (a.Size == (4 : Int) : Bool) else some (a.Size == (16 : Int) : Bool))) = some true := by
    rcases h with h | h | h <;> simp [h]
  unfold addr_Right.f
  rw [ht, hc, Option.bind_some, if_pos rfl, if_pos (by omega), h1, Option.bind_some, h2]
theorem right_ok (k : Nat) (a : S_api_Addr) : addr_Right.f (k + 20) a = some (rightB a) := by
  by_cases h : a.Size = 0 ∨ a.Size = 4 ∨ a.Size = 16
  · rw [right_go k a h]
    have : isSz a.Size = true := by unfold isSz; simp; omega
    unfold rightB
    rw [this, Bool.true_and]
  · have h0 : ¬ a.Size = 0 := by omega
    have h4 : ¬ a.Size = 4 := by omega
    have h16 : ¬ a.Size = 16 := by omega
    unfold addr_Right.f rightB isSz
    simp [h0, h4, h16]
def zeros : List Int := List.replicate 16 0
def mcastB (a : S_api_Addr) : Bool := rightB a && (if a.Size = 4 then Int.fdiv (ar a.B 0) (2 ^ (min (4 : Int).toNat IntKind.u8.bits)) == 14 else a.Size == 16 && ar a.B 0 == 255)
theorem mcast_ok (k : Nat) (a : S_api_Addr) : addr_Multicast.f (k + 20) a = some (mcastB a) := by
  unfold addr_Multicast.f mcastB
  rw [right_ok, Option.bind_some]
  cases rightB a
  · rfl
  · simp only [Bool.not_true, Bool.false_eq_true, if_false, Bool.true_and]
    by_cases h4 : a.Size = 4
    · simp [h4]
    · by_cases h16 : a.Size = 16
      · simp [h16]
      · simp [h4, h16]
theorem eqA_eq {x y : List Int} (hx : x.length = 16) (hy : y.length = 16) : eqA 16 x y = (x == y) := by
  rw [Bool.eq_iff_iff, eqA_iff]
  simp only [beq_iff_eq]
  refine ⟨fun h => ?_, fun e => by subst e; exact fun _ _ => rfl⟩
  apply List.ext_getElem
  · omega
  · intro i h1 h2
    have := h i (by omega)
    rwa [ar_at _ _ h1, ar_at _ _ h2] at this
theorem addr_eq {a b : S_api_Addr} (ha : a.B.length = 16) (hb : b.B.length = 16) : ((a.Size == b.Size) && (eqA 16 a.B b.B && true)) = decide (a = b) := by
  rw [eqA_eq ha hb, Bool.eq_iff_iff]
  obtain ⟨s, x⟩ := a
  obtain ⟨s', x'⟩ := b
  simp
/-! bits of addresses -/
def bitL (l : List Int) (i : Nat) : Bool := (ar l (i / 8)).toNat.testBit (7 - i % 8)
theorem bits_ext {x y : List Int} (hx : x.length = 16) (hy : y.length = 16) (Bx : isB x) (By : isB y) (h : ∀ i, i < 128 → bitL x i = bitL y i) : x = y := by
  apply List.ext_getElem
  · omega
  · intro j h1 h2
    have b1 := Bx x[j] (List.getElem_mem h1)
    have b2 := By y[j] (List.getElem_mem h2)
    have e : (x[j]).toNat = (y[j]).toNat := by
      apply Nat.eq_of_testBit_eq
      intro k
      by_cases hk : k < 8
      · have := h (8 * j + (7 - k)) (by omega)
        unfold bitL at this
        rw [show (8 * j + (7 - k)) / 8 = j by omega, show 7 - (8 * j + (7 - k)) % 8 = k by omega, ar_at _ _ h1, ar_at _ _ h2] at this
        exact this
      · have p : 256 ≤ 2 ^ k := by
          have := Nat.pow_le_pow_right (n := 2) (by decide) (show 8 ≤ k by omega)
          simpa using this
        rw [Nat.testBit_lt_two_pow (by omega), Nat.testBit_lt_two_pow (by omega)]
    omega
def maskI (m : Int) : Int := if m ≤ 0 then 0 else if m ≥ 8 then 255 else IntKind.u8.wrap (255 * 2 ^ (8 - m).toNat)
theorem mask_ok (m : Int) (h : -1000 ≤ m ∧ m ≤ 1000) : addr_mask.f m = some (maskI m) := by
  unfold addr_mask.f maskI
  simp only [decide_eq_true_eq]
  split
  · rfl
  · split
    · rfl
    · rw [w64 _ (by omega), if_pos (by omega), Nat.min_eq_left (by have : IntKind.u8.bits = 8 := rfl; omega)]
theorem mask_small : ∀ m : Fin 8, 1 ≤ m.val → 0 ≤ maskI (m.val : Int) ∧ maskI (m.val : Int) ≤ 255 ∧ ∀ j : Fin 8, (maskI (m.val : Int)).toNat.testBit (7 - j.val) = decide (j.val < m.val) := by decide
theorem mask_range (m : Int) : 0 ≤ maskI m ∧ maskI m ≤ 255 := by
  by_cases h1 : m ≤ 0
  · unfold maskI; rw [if_pos h1]; decide
  · by_cases h2 : m ≥ 8
    · unfold maskI; rw [if_neg h1, if_pos h2]; decide
    · have := mask_small ⟨m.toNat, by omega⟩ (by simp; omega)
      simp only [show ((m.toNat : Nat) : Int) = m by omega] at this
      exact ⟨this.1, this.2.1⟩
theorem mask_bit (m : Int) (j : Nat) (hj : j < 8) : (maskI m).toNat.testBit (7 - j) = decide ((j : Int) < m) := by
  by_cases h1 : m ≤ 0
  · unfold maskI; rw [if_pos h1]; simp; omega
  · by_cases h2 : m ≥ 8
    · unfold maskI; rw [if_neg h1, if_pos h2]
      have : ∀ j : Fin 8, (255 : Int).toNat.testBit (7 - j.val) = true := by decide
      rw [this ⟨j, hj⟩]
      simp; omega
    · have := (mask_small ⟨m.toNat, by omega⟩ (by simp; omega)).2.2 ⟨j, hj⟩
      simp only [show ((m.toNat : Nat) : Int) = m by omega] at this
      rw [this, Bool.eq_iff_iff]
      simp only [decide_eq_true_eq]
      omega
def andI (x y : Int) : Int := ((x.toNat &&& y.toNat : Nat) : Int)
theorem and_u8 (x y : Int) (hx : 0 ≤ x ∧ x ≤ 255) (hy : 0 ≤ y ∧ y ≤ 255) : IntKind.u8.wrap (BitVec.ofInt IntKind.u8.bits x &&& BitVec.ofInt IntKind.u8.bits y).toNat = andI x y := by
  rw [BitVec.toNat_and, BitVec.toNat_ofInt, BitVec.toNat_ofInt]
  have e : IntKind.u8.bits = 8 := rfl
  rw [e]
  have h1 : (x % ((2 ^ 8 : Nat) : Int)).toNat = x.toNat := by
    have : ((2 ^ 8 : Nat) : Int) = 256 := rfl
    omega
  have h2 : (y % ((2 ^ 8 : Nat) : Int)).toNat = y.toNat := by
    have : ((2 ^ 8 : Nat) : Int) = 256 := rfl
    omega
  rw [h1, h2]
  have h3 : x.toNat &&& y.toNat ≤ x.toNat := Nat.and_le_left
  unfold andI
  rw [IntKind.wrap_u8]; omega
theorem andI_range (x y : Int) (hx : 0 ≤ x ∧ x ≤ 255) : 0 ≤ andI x y ∧ andI x y ≤ 255 := by
  have h3 : x.toNat &&& y.toNat ≤ x.toNat := Nat.and_le_left
  unfold andI
  omega
def cutTo (l : List Int) (b : Int) (i : Nat) : List Int := (List.range 16).map fun j => if j < i then andI (ar l j) (maskI (b - 8 * j)) else ar l j
def cutL (l : List Int) (b : Int) : List Int := cutTo l b 16
theorem cutTo_len (l : List Int) (b : Int) (i : Nat) : (cutTo l b i).length = 16 := by simp [cutTo]
theorem cutTo_ar (l : List Int) (b : Int) (i j : Nat) (hj : j < 16) : ar (cutTo l b i) j = if j < i then andI (ar l j) (maskI (b - 8 * j)) else ar l j := by
  rw [ar_at _ _ (by rw [cutTo_len]; exact hj)]
  simp [cutTo]
theorem ar_isB {l : List Int} (h : isB l) (j : Nat) : 0 ≤ ar l j ∧ ar l j ≤ 255 := by
  by_cases hj : j < l.length
  · rw [ar_at l j hj]; exact h _ (List.getElem_mem hj)
  · have : ar l j = 0 := by simp [ar, List.getD, List.getElem?_eq_none (Nat.not_lt.1 hj)]
    rw [this]; decide
theorem cutTo_step (l : List Int) (b : Int) (i : Nat) (hi : i < 16) : (arL 16 (cutTo l b i)).set i (andI (ar (cutTo l b i) i) (maskI (b - 8 * i))) = cutTo l b (i + 1) := by
  have e : arL 16 (cutTo l b i) = cutTo l b i := by
    have := arL_self (cutTo l b i)
    rwa [cutTo_len] at this
  rw [e, cutTo_ar _ _ _ _ hi, if_neg (Nat.lt_irrefl i)]
  apply List.ext_getElem
  · simp [cutTo_len]
  · intro j h1 h2
    rw [List.getElem_set]
    have hj : j < 16 := by rwa [cutTo_len] at h2
    simp only [cutTo, List.getElem_map, List.getElem_range]
    by_cases h : i = j
    · subst h; rw [if_pos rfl, if_pos (by omega)]
    · rw [if_neg h]
      by_cases h' : j < i
      · rw [if_pos h', if_pos (by omega)]
      · rw [if_neg h', if_neg (by omega)]
theorem cut_go (l : List Int) (hl : isB l) (b : Int) (hb : -500 ≤ b ∧ b ≤ 500) : ∀ (m i k : Nat), 16 - i ≤ m → i ≤ 16 → addr_cut.l0 b (m + 1 + k) (i : Int) (cutTo l b i) = some (cutL l b) := by
  intro m
  induction m with
  | zero =>
    intro i k h1 h2
    have : i = 16 := by omega
    subst this
    rw [show 0 + 1 + k = k + 1 by omega]
    unfold addr_cut.l0
    simp [cutL]
  | succ m ih =>
    intro i k h1 h2
    rw [show m + 1 + 1 + k = (m + 1 + k) + 1 by omega]
    by_cases hi : i = 16
    · subst hi
      unfold addr_cut.l0
      simp [cutL]
    · have hi' : i < 16 := by omega
      unfold addr_cut.l0
      rw [if_pos (by simp; omega), if_pos ⟨by omega, by omega⟩, w64 (8 * (i : Int)) (by omega), w64 (b - 8 * (i : Int)) (by omega), mask_ok _ (by omega), Option.bind_some, if_pos ⟨by omega, by omega⟩, Int.toNat_natCast,
        and_u8 _ _ (ar_isB (fun y hy => ?_) i) (mask_range _), cutTo_step l b i hi', w64 _ (by omega), show (i : Int) + 1 = ((i + 1 : Nat) : Int) by omega]
      · exact ih (i + 1) k (by omega) (by omega)
      · simp only [cutTo, List.mem_map, List.mem_range] at hy
        obtain ⟨j, _, rfl⟩ := hy
        split
        · exact andI_range _ _ (ar_isB hl j)
        · exact ar_isB hl j
theorem cutL_isB {l : List Int} (hl : isB l) (b : Int) : isB (cutL l b) := fun y hy => by
  simp only [cutL, cutTo, List.mem_map, List.mem_range] at hy
  obtain ⟨j, hj, rfl⟩ := hy
  first
    | exact andI_range _ _ (ar_isB hl j)
    | (rw [if_pos hj]; exact andI_range _ _ (ar_isB hl j))
theorem cutTo_0 (l : List Int) (hl : l.length = 16) (b : Int) : cutTo l b 0 = l := by
  have := arL_self l
  rw [hl] at this
  unfold arL at this
  simp only [cutTo, Nat.not_lt_zero, if_false]
  exact this
theorem cutf_ok (k : Nat) (a : S_api_Addr) (ha : isB a.B) (hl : a.B.length = 16) (b : Int) (hb : -500 ≤ b ∧ b ≤ 500) : addr_cut.f (k + 20) a b = some ⟨a.Size, cutL a.B b⟩ := by
  unfold addr_cut.f
  have := cut_go a.B ha b hb 16 0 (k + 3) (by omega) (by omega)
  rw [cutTo_0 _ hl] at this
  rw [show k + 20 = 16 + 1 + (k + 3) by omega, show (0 : Int) = ((0 : Nat) : Int) from rfl, this]
  rfl
theorem cut_bit (l : List Int) (b : Int) (i : Nat) (hi : i < 128) : bitL (cutL l b) i = (bitL l i && decide ((i : Int) < b)) := by
  unfold bitL cutL
  rw [cutTo_ar _ _ _ _ (by omega), if_pos (by omega)]
  unfold andI
  rw [Int.toNat_natCast, Nat.testBit_and, mask_bit _ _ (by omega)]
  congr 1
  rw [Bool.eq_iff_iff]
  simp
  omega
/-! cut, has -/
def zs16 : List Int := List.replicate 16 0
def cutOk (a : S_api_Addr) (b : Int) : Bool := rightB a && (a.Size != 0 && (decide (0 ≤ b) && decide (b ≤ 8 * a.Size)))
theorem rightB_size {a : S_api_Addr} (h : rightB a = true) : a.Size = 0 ∨ a.Size = 4 ∨ a.Size = 16 := isSz_or (by unfold rightB at h; simp only [Bool.and_eq_true] at h; exact h.1)
theorem cutOk_range {a : S_api_Addr} {b : Int} (h : cutOk a b = true) : rightB a = true ∧ (a.Size = 4 ∨ a.Size = 16) ∧ 0 ≤ b ∧ b ≤ 8 * a.Size ∧ b ≤ 128 := by
  unfold cutOk at h
  simp only [Bool.and_eq_true, decide_eq_true_eq, bne_iff_ne, ne_eq] at h
  have := rightB_size h.1
  refine ⟨h.1, ?_, h.2.2.1, h.2.2.2, ?_⟩ <;> omega
def cutP (a : S_api_Addr) (b : Int) : S_api_Prefix := ⟨⟨a.Size, cutL a.B b⟩, b⟩
theorem Cut_ok (k : Nat) (a : S_api_Addr) (ha : isB a.B) (hl : a.B.length = 16) (b : Int) : addr_Cut.f (k + 20) a b = some (if cutOk a b = true then (cutP a b, 0) else (⟨⟨0, zs16⟩, 0⟩, 1)) := by
  unfold addr_Cut.f
  rw [right_ok, Option.bind_some]
  by_cases h1 : rightB a = true
  · have hs := rightB_size h1
    rw [h1]
    simp only [Bool.not_true, Bool.false_eq_true, if_false]
    by_cases h2 : a.Size = 0
    · rw [if_pos (by simp [h2]), Option.bind_some, if_pos rfl, if_neg (by simp [cutOk, h2])]; rfl
    · rw [if_neg (by simpa using h2)]
      by_cases h3 : b < 0
      · rw [if_pos (by simpa using h3), Option.bind_some, if_pos rfl, if_neg (by simp [cutOk]; omega)]; rfl
      · rw [if_neg (by simpa using h3), Option.bind_some, w64 _ (by omega)]
        by_cases h4 : b > 8 * a.Size
        · rw [if_pos (by simpa using h4), if_neg (by simp [cutOk]; omega)]; rfl
        · rw [if_neg (by simpa using h4), if_pos (by simp [cutOk, h1, h2]; omega), cutf_ok k a ha hl b (by omega)]
          rfl
  · have : rightB a = false := by simpa using h1
    rw [this]
    simp only [Bool.not_false, if_true, Option.bind_some]
    rw [if_neg (by simp [cutOk, this])]
    rfl
theorem pre_eq {p q : S_api_Prefix} (hp : p.Addr.B.length = 16) (hq : q.Addr.B.length = 16) : ((((p.Addr.Size == q.Addr.Size) && ((eqA 16 p.Addr.B q.Addr.B) && true)) && ((p.Bits == q.Bits) && true))) = decide (p = q) := by
  rw [addr_eq hp hq, Bool.eq_iff_iff]
  obtain ⟨a, x⟩ := p
  obtain ⟨b, y⟩ := q
  simp
theorem cutL_len (l : List Int) (b : Int) : (cutL l b).length = 16 := cutTo_len l b 16
def rightP (p : S_api_Prefix) : Bool := cutOk p.Addr p.Bits && (cutL p.Addr.B p.Bits == p.Addr.B)
theorem rightP_ok (k : Nat) (p : S_api_Prefix) (hB : isB p.Addr.B) (hl : p.Addr.B.length = 16) : addr_right.f (k + 20) p = some (rightP p) := by
  unfold addr_right.f
  rw [Cut_ok k _ hB hl, Option.bind_some]
  by_cases h : cutOk p.Addr p.Bits = true
  · rw [if_pos h]
    simp only [beq_self_eq_true, if_true, Option.bind_some]
    rw [pre_eq (by unfold cutP; exact cutL_len _ _) hl]
    unfold rightP
    rw [h, Option.some.injEq, Bool.eq_iff_iff]
    obtain ⟨⟨s, l⟩, b⟩ := p
    simp [cutP]
  · rw [if_neg h]
    have : cutOk p.Addr p.Bits = false := by simpa using h
    unfold rightP
    rw [this]
    rfl
def hasB (p : S_api_Prefix) (a : S_api_Addr) : Bool := rightP p && (rightB a && ((a.Size == p.Addr.Size) && (cutL a.B p.Bits == p.Addr.B)))
theorem has_ok (k : Nat) (p : S_api_Prefix) (a : S_api_Addr) (hB : isB p.Addr.B) (hl : p.Addr.B.length = 16) (hBa : isB a.B) (hla : a.B.length = 16) : addr_Has.f (k + 20) p a = some (hasB p a) := by
  unfold addr_Has.f
  rw [rightP_ok k p hB hl, right_ok]
  simp only [Option.bind_some]
  unfold hasB
  cases hp : rightP p with
  | false => rfl
  | true =>
    have hr := cutOk_range (a := p.Addr) (b := p.Bits) (by unfold rightP at hp; simp only [Bool.and_eq_true] at hp; exact hp.1)
    rw [if_pos rfl]
    cases hq : rightB a with
    | false => rfl
    | true =>
      rw [if_pos rfl]
      by_cases hs : a.Size = p.Addr.Size
      · rw [if_pos (by simpa using hs), cutf_ok k a hBa hla p.Bits (by omega), Option.bind_some, Option.bind_some, eqA_eq (cutL_len _ _) hl]
        simp [hs]
      · rw [if_neg (by simpa using hs), Option.bind_some]
        simp [hs]
theorem cut_cut (l : List Int) (hl : isB l) (i k : Int) : cutL (cutL l i) k = cutL l (min i k) := by
  refine bits_ext (cutL_len _ _) (cutL_len _ _) (cutL_isB (cutL_isB hl i) k) (cutL_isB hl _) fun j hj => ?_
  rw [cut_bit _ _ _ hj, cut_bit _ _ _ hj, cut_bit _ _ _ hj, Bool.and_assoc]
  congr 1
  rw [Bool.eq_iff_iff]
  simp only [Bool.and_eq_true, decide_eq_true_eq]
  omega
theorem rightB_iff (a : S_api_Addr) : rightB a = true ↔ isSz a.Size = true ∧ ∀ j, a.Size.toNat ≤ j → j < 16 → ar a.B j = 0 := by
  unfold rightB
  rw [Bool.and_eq_true, List.all_eq_true]
  refine and_congr_right fun _ => ⟨fun h j h1 h2 => ?_, fun h x hx => ?_⟩
  · have := h (ar a.B j) (by
      rw [List.mem_iff_getElem]
      refine ⟨j - a.Size.toNat, by rw [List.length_drop, arL_length]; omega, ?_⟩
      rw [List.getElem_drop]
      simp only [arL, List.getElem_map, List.getElem_range]
      congr 1; omega)
    simpa using this
  · obtain ⟨i, hi, rfl⟩ := List.mem_iff_getElem.1 hx
    rw [List.length_drop, arL_length] at hi
    rw [List.getElem_drop]
    simp only [arL, List.getElem_map, List.getElem_range, beq_iff_eq]
    exact h _ (by omega) (by omega)
theorem right_cut {a : S_api_Addr} (b : Int) (h : rightB a = true) : rightB ⟨a.Size, cutL a.B b⟩ = true := by
  rw [rightB_iff] at h ⊢
  refine ⟨h.1, fun j h1 h2 => ?_⟩
  unfold cutL
  simp only
  rw [cutTo_ar _ _ _ _ h2, if_pos h2, h.2 j h1 h2]
  simp [andI]
theorem cutP_right {a : S_api_Addr} {b : Int} (ha : isB a.B) (h : cutOk a b = true) : rightP (cutP a b) = true := by
  unfold rightP cutP
  simp only [cut_cut _ ha, Bool.and_eq_true, beq_iff_eq]
  have hr := cutOk_range h
  refine ⟨?_, by rw [Int.min_self]⟩
  unfold cutOk
  rw [right_cut b hr.1]
  simp
  omega
theorem has_cutP {a c : S_api_Addr} {b : Int} (ha : isB a.B) (h : cutOk a b = true) : hasB (cutP a b) c = (rightB c && ((c.Size == a.Size) && (cutL c.B b == cutL a.B b))) := by
  unfold hasB
  rw [cutP_right ha h]
  rfl
theorem small_ok (k : Nat) : vinerylaw02_small.f (k + 60) = some true := by kernel_rfl
theorem icmp_f (x y : Int) : cmp_Compare_int.f x y = some (icmp x y) := by
  unfold cmp_Compare_int.f cmp_isNaN_int.f icmp
  have e : ∀ z : Int, (z != z) = false := fun z => by simp
  simp only [e, Option.bind_some, Bool.false_eq_true, if_false, decide_eq_true_eq]
  split
  · rfl
  · split <;> rfl
theorem or2_f (k : Nat) (x y : Int) : cmp_Or_int.f (k + 3) [x, y] = some (if x ≠ 0 then x else y) := by
  unfold cmp_Or_int.f
  have h0 : rd [x, y] 0 = x := rfl
  have h1 : rd [x, y] 1 = y := rfl
  have w1 : IntKind.i64.wrap (0 + 1) = 1 := by decide
  have w2 : IntKind.i64.wrap (1 + 1) = 2 := by decide
  unfold cmp_Or_int.l0
  simp only [List.length_cons, List.length_nil, h0]
  by_cases hx : x = 0
  · subst hx
    unfold cmp_Or_int.l0
    simp only [w1, h1, List.length_cons, List.length_nil]
    by_cases hy : y = 0
    · subst hy
      unfold cmp_Or_int.l0
      simp [show IntKind.i64.wrap 2 = 2 from by decide]
    · simp [hy]
  · simp [hx]
def acmp (a b : S_api_Addr) : Int := orC (fun a b : S_api_Addr => icmp a.Size b.Size) (fun a b : S_api_Addr => Go.Lib.compareBytes (b2s (arL 16 a.B)) (b2s (arL 16 b.B))) a b
theorem acmp_is : IsCmp acmp := (icmp_is.by (fun a : S_api_Addr => a.Size)).or (bytes_is.by (fun a : S_api_Addr => b2s (arL 16 a.B)))
theorem acmp_f (k : Nat) (a b : S_api_Addr) : addr_Compare.f (k + 3) a b = some (acmp a b) := by
  unfold addr_Compare.f cursor_Order.f bytes_Compare.f
  rw [icmp_f]
  simp only [Option.bind_some, or2_f]
  unfold acmp orC
  rfl
theorem icmp_0 {x y : Int} : icmp x y = 0 ↔ x = y := by unfold icmp; (repeat' split) <;> omega
theorem tail_all_step (x : List Int) (n : Nat) (hn : n < 16) : ((arL 16 x).drop n).all (· == 0) = ((ar x n == 0) && ((arL 16 x).drop (n + 1)).all (· == 0)) := by
  have hl : n < (arL 16 x).length := by rw [arL_length]; exact hn
  rw [List.drop_eq_getElem_cons hl, List.all_cons]
  congr 2
  simp [arL]
theorem rright_l0 (a : S_api_Addr) : ∀ (m k n : Nat), n + m = 16 → m < k → (vineryref02_Right.l0 a k (n : Int)).bind (fun s14 => match s14 with | .inl r => some r | .inr _ => some ((true : Bool))) = some (((arL 16 a.B).drop n).all (· == 0))
  | 0, k, n, h, hk => by
    obtain ⟨k, rfl⟩ : ∃ k', k = k' + 1 := ⟨k - 1, by omega⟩
    rw [vineryref02_Right.l0, if_neg (by simp; omega), List.drop_of_length_le (by rw [arL_length]; omega)]
    rfl
  | m + 1, k, n, h, hk => by
    obtain ⟨k, rfl⟩ : ∃ k', k = k' + 1 := ⟨k - 1, by omega⟩
    have e : IntKind.i64.wrap ((n : Int) + 1) = ((n + 1 : Nat) : Int) := by rw [w64 _ (by omega)]; omega
    rw [vineryref02_Right.l0, if_pos (by simp; omega), if_pos (by omega), tail_all_step _ _ (by omega), Int.toNat_natCast, e]
    by_cases h0 : ar a.B n = 0
    · rw [if_neg (by simp [h0]), rright_l0 a m k (n + 1) (by omega) (by omega)]
      simp [h0]
    · rw [if_pos (by simp [h0])]
      simp [h0]
theorem rright_ok (k : Nat) (a : S_api_Addr) : vineryref02_Right.f (k + 20) a = some (rightB a) := by
  unfold vineryref02_Right.f
  by_cases h : a.Size = 0 ∨ a.Size = 4 ∨ a.Size = 16
  · have hc : ((if (a.Size != (0 : Int)) = true then (if (a.Size != (4 : Int)) = true then some (a.Size != (16 : Int) : Bool) else some (false : Bool)) else some (false : Bool))) = some false := by
      rcases h with h | h | h <;> simp [h]
    have hs : isSz a.Size = true := by unfold isSz; simp; omega
    rw [hc, Option.bind_some, if_neg (by simp)]
    have hn : ((a.Size.toNat : Nat) : Int) = a.Size := by omega
    have := rright_l0 a (16 - a.Size.toNat) (k + 20) a.Size.toNat (by omega) (by omega)
    rw [hn] at this
    unfold rightB
    rw [hs, Bool.true_and]
    exact this
  · have h0 : ¬ a.Size = 0 := by omega
    have h4 : ¬ a.Size = 4 := by omega
    have h16 : ¬ a.Size = 16 := by omega
    unfold rightB isSz
    simp [h0, h4, h16]
theorem rmcast_ok (k : Nat) (a : S_api_Addr) (h : isB a.B) : vineryref02_Multicast.f (k + 20) a = some (mcastB a) := by
  unfold vineryref02_Multicast.f mcastB
  rw [rright_ok, Option.bind_some]
  have hb := ar_isB h 0
  have hp : (2 : Int) ^ (min (4 : Int).toNat IntKind.u8.bits) = 16 := rfl
  rw [hp, Int.fdiv_eq_ediv_of_nonneg _ (by omega)]
  cases rightB a
  · rfl
  · by_cases h4 : a.Size = 4
    · have h16 : ¬ a.Size = 16 := by omega
      by_cases g1 : 224 ≤ ar a.B 0
      · by_cases g2 : ar a.B 0 < 240
        · have : ar a.B 0 / 16 = 14 := by omega
          simp [h4, g1, g2, this]
        · have : ¬ ar a.B 0 / 16 = 14 := by omega
          simp [h4, g1, g2, this]
      · have : ¬ ar a.B 0 / 16 = 14 := by omega
        simp [h4, g1, this]
    · by_cases h16 : a.Size = 16
      · simp [h16]
      · simp [h4, h16]
theorem u8_lt {x y : Int} (hx : 0 ≤ x ∧ x ≤ 255) (hy : 0 ≤ y ∧ y ≤ 255) : (UInt8.ofNat x.toNat < UInt8.ofNat y.toNat) ↔ x < y := by
  rw [UInt8.lt_iff_toNat_lt, UInt8.toNat_ofNat', UInt8.toNat_ofNat']
  omega
theorem b2s_cons (x : Int) (l : List Int) : b2s (x :: l) = UInt8.ofNat x.toNat :: b2s l := rfl
def refTail (a b : List Int) (s6 : Int ⊕ Unit) : Option Int := match s6 with | .inl r => some r | .inr _ => (if (decide ((a.length : Int) < (b.length : Int))) = true then some (((-1 : Int) : Int)) else (if (decide ((a.length : Int) > (b.length : Int))) = true then some (((1 : Int) : Int)) else some (((0 : Int) : Int))))
theorem reforder_cond (a b : List Int) (i : Nat) : (if (decide ((i : Int) < (a.length : Int))) = true then (decide ((i : Int) < (b.length : Int))) else false) = decide (i < a.length ∧ i < b.length) := by
  by_cases h1 : i < a.length <;> by_cases h2 : i < b.length <;> simp [h1, h2]
theorem reforder_go (a b : List Int) (ha : isB a) (hb : isB b) (hla : a.length ≤ 140737488351232) : ∀ (m k i : Nat), min a.length b.length ≤ m + i → m < k → i ≤ a.length → i ≤ b.length →
    (vineryref01_Order.l0 a b k (i : Int)).bind (refTail a b) = some (Go.Lib.compareBytes (b2s (a.drop i)) (b2s (b.drop i))) := by
  intro m
  induction m with
  | zero =>
    intro k i hm hk hia hib
    obtain ⟨k, rfl⟩ : ∃ k', k = k' + 1 := ⟨k - 1, by omega⟩
    unfold vineryref01_Order.l0
    rw [reforder_cond]
    have hc : ¬ (i < a.length ∧ i < b.length) := by omega
    simp only [hc, decide_false, Bool.false_eq_true, if_false, Option.bind_some, refTail]
    by_cases h1 : a.length < b.length
    · have e1 : a.drop i = [] := List.drop_of_length_le (by omega)
      have e2 : b.drop i = b[i]'(by omega) :: b.drop (i + 1) := List.drop_eq_getElem_cons (by omega)
      rw [if_pos (by simpa using h1), e1, e2]
      rfl
    · rw [if_neg (by simpa using h1)]
      have e2 : b.drop i = [] := List.drop_of_length_le (by omega)
      by_cases h2 : b.length < a.length
      · have e1 : a.drop i = a[i]'(by omega) :: a.drop (i + 1) := List.drop_eq_getElem_cons (by omega)
        rw [if_pos (by simpa using h2), e1, e2]
        rfl
      · have e1 : a.drop i = [] := List.drop_of_length_le (by omega)
        rw [if_neg (by simpa using h2), e1, e2]
        rfl
  | succ m ih =>
    intro k i hm hk hia hib
    by_cases hlt : i < a.length ∧ i < b.length
    · obtain ⟨k, rfl⟩ : ∃ k', k = k' + 1 := ⟨k - 1, by omega⟩
      have e1 : a.drop i = a[i]'(by omega) :: a.drop (i + 1) := List.drop_eq_getElem_cons (by omega)
      have e2 : b.drop i = b[i]'(by omega) :: b.drop (i + 1) := List.drop_eq_getElem_cons (by omega)
      have ba := ha a[i] (by simp)
      have bb := hb b[i] (by simp)
      rw [e1, e2, b2s_cons, b2s_cons, cb_cons]
      simp only [u8_lt ba bb, u8_lt bb ba]
      unfold vineryref01_Order.l0
      have ei : IntKind.i64.wrap ((i : Int) + 1) = ((i + 1 : Nat) : Int) := by rw [IntKind.wrap_i64]; omega
      have ra : (0 : Int) ≤ (i : Int) ∧ (i : Int) < (a.length : Int) := by omega
      have rb : (0 : Int) ≤ (i : Int) ∧ (i : Int) < (b.length : Int) := by omega
      rw [reforder_cond]
      simp only [hlt, and_self, decide_true, if_true, ra, rb, rd_at a i hlt.1, rd_at b i hlt.2, decide_eq_true_eq, gt_iff_lt, ei]
      by_cases h1 : a[i] < b[i]
      · rw [if_pos h1, if_pos h1]; rfl
      · rw [if_neg h1, if_neg h1]
        by_cases h2 : b[i] < a[i]
        · rw [if_pos h2, if_pos h2]; rfl
        · rw [if_neg h2, if_neg h2, ih k (i + 1) (by omega) (by omega) (by omega) (by omega)]
    · exact ih k i (by omega) (by omega) hia hib
theorem reforder_ok (k : Nat) (a b : List Int) (ha : isB a) (hb : isB b) (hla : a.length ≤ 140737488351232) (hk : a.length < k) : vineryref01_Order.f k a b = some (Go.Lib.compareBytes (b2s a) (b2s b)) := by
  unfold vineryref01_Order.f
  exact reforder_go a b ha hb hla a.length k 0 (by omega) hk (by omega) (by omega)
/-! the document's answers -/
theorem tdiv_nat (i n : Nat) : Int.tdiv (i : Int) (n : Int) = ((i / n : Nat) : Int) := rfl
theorem tmod_nat (i n : Nat) : Int.tmod (i : Int) (n : Int) = ((i % n : Nat) : Int) := rfl
theorem rbit_ok (a : S_api_Addr) (h : isB a.B) (i : Nat) (hi : i < 128) : vineryref02_bit.f a (i : Int) = some (bitL a.B i) := by
  unfold vineryref02_bit.f
  rw [show (8 : Int) = ((8 : Nat) : Int) from rfl, tdiv_nat, tmod_nat, w64 ((i / 8 : Nat) : Int) (by omega), w64 ((7 : Int) - ((i % 8 : Nat) : Int)) (by omega), if_pos (by omega), if_pos (by omega)]
  have hb := ar_isB h (i / 8)
  rw [Int.toNat_natCast, show ((7 : Int) - ((i % 8 : Nat) : Int)).toNat = 7 - i % 8 by omega, Nat.min_eq_left (by have : IntKind.u8.bits = 8 := rfl; omega)]
  unfold bitL
  have e : ar a.B (i / 8) = ((ar a.B (i / 8)).toNat : Int) := by omega
  have p2 : ((2 : Int) ^ (7 - i % 8)) = ((2 ^ (7 - i % 8) : Nat) : Int) := by simp
  rw [e, p2, Int.fdiv_eq_ediv_of_nonneg _ (Int.natCast_nonneg _), show (2 : Int) = ((2 : Nat) : Int) from rfl, ← Int.natCast_ediv, tmod_nat, Int.toNat_natCast, Nat.testBit_eq_decide_div_mod_eq]
  congr 1
  rw [Bool.eq_iff_iff, beq_iff_eq, decide_eq_true_eq]
  omega
theorem rp_go (p : S_api_Prefix) (h : isB p.Addr.B) (s : Nat) (hs : p.Addr.Size = (s : Int)) (h16 : s ≤ 16) : ∀ (m i k : Nat), i + m = 8 * s → m < k →
    ∃ r, (vineryref02_RightPrefix.l0 p k (i : Int)).bind (fun s16 => match s16 with | .inl r => some r | .inr _ => some ((true : Bool))) = some r ∧ (r = true ↔ ∀ j, i ≤ j → j < 8 * s → bitL p.Addr.B j = false)
  | 0, i, k + 1, hi, _ => by
    rw [vineryref02_RightPrefix.l0, hs, w64 _ (by omega), if_neg (by simp; omega)]
    exact ⟨true, rfl, by simp; omega⟩
  | m + 1, i, k + 1, hi, hk => by
    rw [vineryref02_RightPrefix.l0, hs, w64 (8 * (s : Int)) (by omega), if_pos (by simp; omega), rbit_ok _ h i (by omega), Option.bind_some]
    cases hb : bitL p.Addr.B i with
    | true =>
      rw [if_pos rfl]
      refine ⟨false, rfl, ?_⟩
      simp only [Bool.false_eq_true, false_iff, Classical.not_forall]
      exact ⟨i, by omega, by omega, by rw [hb]; simp⟩
    | false =>
      rw [if_neg (by simp), w64 _ (by omega), show (i : Int) + 1 = ((i + 1 : Nat) : Int) by omega]
      obtain ⟨r, hr, hiff⟩ := rp_go p h s hs h16 m (i + 1) k (by omega) (by omega)
      refine ⟨r, hr, hiff.trans ⟨fun q j h1 h2 => ?_, fun q j h1 h2 => q j (by omega) h2⟩⟩
      by_cases e : j = i
      · subst e; exact hb
      · exact q j (by omega) h2
theorem cut_self (l : List Int) (hl : l.length = 16) (hB : isB l) (b : Int) : cutL l b = l ↔ ∀ j : Nat, j < 128 → b ≤ (j : Int) → bitL l j = false := by
  constructor
  · intro e j h1 h2
    have := congrArg (fun l => bitL l j) e
    simp only [cut_bit _ _ _ h1] at this
    rw [← this, decide_eq_false (by omega), Bool.and_false]
  · intro h
    refine bits_ext (cutL_len _ _) hl (cutL_isB hB b) hB fun j hj => ?_
    rw [cut_bit _ _ _ hj]
    by_cases hb : (j : Int) < b
    · rw [decide_eq_true hb, Bool.and_true]
    · rw [h j hj (by omega)]; rfl
theorem right_bits {a : S_api_Addr} (h : rightB a = true) (j : Nat) (hj : j < 128) (hs : 8 * a.Size ≤ (j : Int)) : bitL a.B j = false := by
  have h2 := (rightB_iff a).1 h
  have hz := rightB_size h
  unfold bitL
  rw [h2.2 (j / 8) (by omega) (by omega)]
  simp
theorem rrp_ok (k : Nat) (p : S_api_Prefix) (h : isB p.Addr.B) (hl : p.Addr.B.length = 16) : vineryref02_RightPrefix.f (k + 150) p = some (rightP p) := by
  unfold vineryref02_RightPrefix.f
  rw [show k + 150 = (k + 130) + 20 by omega, rright_ok, Option.bind_some]
  by_cases h1 : rightB p.Addr = true
  · have hs := rightB_size h1
    rw [h1]
    simp only [Bool.not_true, Bool.false_eq_true, if_false]
    by_cases h2 : p.Addr.Size = 0
    · rw [if_pos (by simp [h2]), Option.bind_some, if_pos rfl]; simp [rightP, cutOk, h2]
    · rw [if_neg (by simpa using h2)]
      by_cases h3 : p.Bits < 0
      · rw [if_pos (by simpa using h3), Option.bind_some, if_pos rfl]; simp [rightP, cutOk]; omega
      · rw [if_neg (by simpa using h3), Option.bind_some, w64 _ (by omega)]
        by_cases h4 : p.Bits > 8 * p.Addr.Size
        · rw [if_pos (by simpa using h4)]; simp [rightP, cutOk]; omega
        · rw [if_neg (by simpa using h4)]
          obtain ⟨s, es⟩ : ∃ s : Nat, p.Addr.Size = (s : Int) := ⟨p.Addr.Size.toNat, by omega⟩
          obtain ⟨b, eb⟩ : ∃ b : Nat, p.Bits = (b : Int) := ⟨p.Bits.toNat, by omega⟩
          obtain ⟨r, hr, hiff⟩ := rp_go p h s es (by omega) (8 * s - b) b (k + 130 + 20) (by omega) (by omega)
          rw [← eb] at hr
          refine hr.trans ?_
          unfold rightP
          have c1 : cutOk p.Addr p.Bits = true := by simp [cutOk, h1, h2]; omega
          rw [c1, Bool.true_and, Option.some.injEq, Bool.eq_iff_iff, hiff, beq_iff_eq, cut_self _ hl h]
          refine ⟨fun q j h1' h2' => ?_, fun q j h1' h2' => q j (by omega) (by omega)⟩
          by_cases hj : j < 8 * s
          · exact q j (by omega) hj
          · exact right_bits h1 j h1' (by omega)
  · have : rightB p.Addr = false := by simpa using h1
    rw [this]
    simp [rightP, cutOk, this]
theorem rh_go (p : S_api_Prefix) (a : S_api_Addr) (h : isB p.Addr.B) (ha : isB a.B) (b : Nat) (hb : p.Bits = (b : Int)) (h16 : b ≤ 128) : ∀ (m i k : Nat), i + m = b → m < k →
    ∃ r, (vineryref02_Has.l0 p a k (i : Int)).bind (fun s16 => match s16 with | .inl r => some r | .inr _ => some ((true : Bool))) = some r ∧ (r = true ↔ ∀ j, i ≤ j → j < b → bitL a.B j = bitL p.Addr.B j)
  | 0, i, k + 1, hi, _ => by
    rw [vineryref02_Has.l0, hb, if_neg (by simp; omega)]
    exact ⟨true, rfl, by simp; omega⟩
  | m + 1, i, k + 1, hi, hk => by
    rw [vineryref02_Has.l0, hb, if_pos (by simp; omega), rbit_ok _ ha i (by omega), Option.bind_some, rbit_ok _ h i (by omega), Option.bind_some]
    by_cases hq : bitL a.B i = bitL p.Addr.B i
    · rw [if_neg (by simp [hq]), w64 _ (by omega), show (i : Int) + 1 = ((i + 1 : Nat) : Int) by omega]
      obtain ⟨r, hr, hiff⟩ := rh_go p a h ha b hb h16 m (i + 1) k (by omega) (by omega)
      refine ⟨r, hr, hiff.trans ⟨fun q j h1 h2 => ?_, fun q j h1 h2 => q j (by omega) h2⟩⟩
      by_cases e : j = i
      · subst e; exact hq
      · exact q j (by omega) h2
    · rw [if_pos (by simpa using hq)]
      refine ⟨false, rfl, ?_⟩
      simp only [Bool.false_eq_true, false_iff, Classical.not_forall]
      exact ⟨i, by omega, by omega, hq⟩
theorem cut_same {l x : List Int} (hx : x.length = 16) (hl : isB l) (hB : isB x) {b : Int} (hc : cutL x b = x) : cutL l b = x ↔ ∀ j : Nat, j < 128 → (j : Int) < b → bitL l j = bitL x j := by
  constructor
  · intro e j h1 h2
    have := congrArg (fun l => bitL l j) e
    simp only [cut_bit _ _ _ h1] at this
    rw [← this, decide_eq_true h2, Bool.and_true]
  · intro h
    refine bits_ext (cutL_len _ _) hx (cutL_isB hl b) hB fun j hj => ?_
    rw [cut_bit _ _ _ hj]
    by_cases hb : (j : Int) < b
    · rw [decide_eq_true hb, Bool.and_true]; exact h j hj hb
    · rw [decide_eq_false hb, Bool.and_false, ((cut_self x hx hB b).1 hc) j hj (by omega)]
theorem rhas_ok (k : Nat) (p : S_api_Prefix) (a : S_api_Addr) (h : isB p.Addr.B) (hl : p.Addr.B.length = 16) (ha : isB a.B) : vineryref02_Has.f (k + 150) p a = some (hasB p a) := by
  unfold vineryref02_Has.f
  rw [rrp_ok k p h hl, Option.bind_some, show k + 150 = (k + 130) + 20 by omega, rright_ok, Option.bind_some]
  unfold hasB
  cases hp : rightP p with
  | false => rfl
  | true =>
    have hp' : cutOk p.Addr p.Bits = true ∧ cutL p.Addr.B p.Bits = p.Addr.B := by
      unfold rightP at hp
      simpa only [Bool.and_eq_true, beq_iff_eq] using hp
    have hr := cutOk_range hp'.1
    cases hq : rightB a with
    | false => rfl
    | true =>
      simp only [Bool.not_true, Bool.false_eq_true, if_false, Option.bind_some]
      by_cases hs : a.Size = p.Addr.Size
      · rw [if_neg (by simp [hs])]
        obtain ⟨b, eb⟩ : ∃ b : Nat, p.Bits = (b : Int) := ⟨p.Bits.toNat, by omega⟩
        obtain ⟨r, hr', hiff⟩ := rh_go p a h ha b eb (by omega) b 0 (k + 130 + 20) (by omega) (by omega)
        refine (show _ = some r from hr').trans ?_
        rw [hs]
        simp only [beq_self_eq_true, Bool.true_and]
        rw [Option.some.injEq, Bool.eq_iff_iff, hiff, beq_iff_eq, cut_same hl ha h hp'.2]
        exact ⟨fun q j _ h2 => q j (by omega) (by omega), fun q j _ h2 => q j (by omega) (by omega)⟩
      · rw [if_pos (by simpa using hs)]
        simp [hs]
theorem rcmp_ok (k : Nat) (a b : S_api_Addr) (ha : isB a.B) (hb : isB b.B) (la : a.B.length = 16) (lb : b.B.length = 16) : vineryref02_Compare.f (k + 20) a b = some (acmp a b) := by
  unfold vineryref02_Compare.f acmp orC icmp
  have ea : arL 16 a.B = a.B := by rw [← la]; exact arL_self _
  have eb : arL 16 b.B = b.B := by rw [← lb]; exact arL_self _
  rw [ea, eb]
  simp only [decide_eq_true_eq]
  by_cases h1 : a.Size < b.Size
  · rw [if_pos h1, if_pos h1, if_pos (by decide)]
  · rw [if_neg h1, if_neg h1]
    by_cases h2 : a.Size > b.Size
    · rw [if_pos h2, if_pos h2, if_pos (by decide)]
    · rw [if_neg h2, if_neg h2, if_neg (by decide), reforder_ok _ _ _ ha hb (by omega) (by omega)]
      simp only [ea, eb]
      rfl
theorem AddrTells.law (a : S_api_Addr) (ha : okS_api_Addr a) (b : S_api_Addr) (hb : okS_api_Addr b) (p : S_api_Prefix) (hp : okS_api_Prefix p) : ∃ k, vinerylaw02_AddrTells.f k a b p = some true := by
  refine ⟨150, ?_⟩
  have la := ha.2.1; have lb := hb.2.1; have lp := hp.1.2.1
  have Ba := okA_isB ha.2; have Bb := okA_isB hb.2; have Bp := okA_isB hp.1.2
  have c1 := acmp_f 147 a b
  have c2 := rcmp_ok 130 a b Ba Bb la lb
  have h1 := has_ok 130 p a Bp lp Ba la
  have h2 := rhas_ok 0 p a Bp lp Ba
  have m1 := mcast_ok 130 a
  have m2 := rmcast_ok 130 a Ba
  unfold vinerylaw02_AddrTells.f
  rw [small_ok 90, Option.bind_some]
  simp only [show 147 + 3 = 150 from rfl, show 130 + 20 = 150 from rfl, show 0 + 150 = 150 from rfl] at c1 c2 h1 h2 m1 m2
  simp [c1, c2, h1, h2, m1, m2]
end Go.E
