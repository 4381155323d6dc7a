/- The plain law: what the walk computes is true, whatever the input. -/
import Derived.Test.YtilmdjjeakileaaDoorGenRdMakes
import Derived.Test.YtilmdjjeakileaaDoorEngR
set_option linter.unusedVariables false
set_option linter.unusedSimpArgs false
namespace Go.E
theorem bstr_toList (l : List UInt8) : (bstr l).toList = l := by rw [ByteArray.toList_eq]; simp [bstr]
theorem cmp_range : ∀ (a b : List UInt8), Go.Lib.compareBytes a b = -1 ∨ Go.Lib.compareBytes a b = 0 ∨ Go.Lib.compareBytes a b = 1
  | [], [] => .inr (.inl rfl)
  | [], _ :: _ => .inl rfl
  | _ :: _, [] => .inr (.inr rfl)
  | x :: xs, y :: ys => by
    unfold Go.Lib.compareBytes
    split
    · exact .inl rfl
    · split
      · exact .inr (.inr rfl)
      · exact cmp_range xs ys
theorem u8_tri {x y : UInt8} (h : ¬ x < y) (h' : ¬ y < x) : x = y := UInt8.le_antisymm (UInt8.not_lt.1 h') (UInt8.not_lt.1 h)
theorem cb_cons (x y : UInt8) (xs ys : List UInt8) : Go.Lib.compareBytes (x :: xs) (y :: ys) = if x < y then -1 else if y < x then 1 else Go.Lib.compareBytes xs ys := rfl
theorem cmp_neg : ∀ (a b : List UInt8), Go.Lib.compareBytes b a = - Go.Lib.compareBytes a b
  | [], [] => rfl
  | [], _ :: _ => rfl
  | _ :: _, [] => rfl
  | x :: xs, y :: ys => by
    rw [cb_cons, cb_cons]
    by_cases h : x < y
    · rw [if_pos h, if_neg (UInt8.lt_asymm h), if_pos h]; rfl
    · rw [if_neg h, if_neg h]
      by_cases h' : y < x
      · rw [if_pos h', if_pos h']
      · rw [if_neg h', if_neg h', cmp_neg xs ys]
theorem cmp_eq0 : ∀ (a b : List UInt8), Go.Lib.compareBytes a b = 0 ↔ a = b
  | [], [] => by simp [Go.Lib.compareBytes]
  | [], _ :: _ => by simp [Go.Lib.compareBytes]
  | _ :: _, [] => by simp [Go.Lib.compareBytes]
  | x :: xs, y :: ys => by
    rw [cb_cons]
    by_cases h : x < y
    · rw [if_pos h]
      refine ⟨fun h => absurd h (by decide), fun e => ?_⟩
      injection e with e _; subst e; exact absurd h (UInt8.lt_irrefl _)
    · rw [if_neg h]
      by_cases h' : y < x
      · rw [if_pos h']
        refine ⟨fun h => absurd h (by decide), fun e => ?_⟩
        injection e with e _; subst e; exact absurd h' (UInt8.lt_irrefl _)
      · rw [if_neg h', cmp_eq0 xs ys, u8_tri h h']; simp
theorem cmp_less : ∀ (a b : List UInt8), decide (Go.Lib.compareBytes a b < 0) = Op.bytesLess a b
  | [], [] => rfl
  | [], _ :: _ => rfl
  | _ :: _, [] => rfl
  | x :: xs, y :: ys => by
    rw [cb_cons]
    unfold Op.bytesLess
    by_cases h : x < y
    · simp [h]
    · rw [if_neg h]
      by_cases h' : y < x
      · rw [if_pos h']
        have : x ≠ y := fun e => by subst e; exact UInt8.lt_irrefl _ h'
        simp [h, this]
      · rw [if_neg h', cmp_less xs ys]
        have := u8_tri h h'
        subst this
        simp [h]
theorem cb_nc (y : UInt8) (ys : List UInt8) : Go.Lib.compareBytes [] (y :: ys) = -1 := rfl
theorem cb_cn (y : UInt8) (ys : List UInt8) : Go.Lib.compareBytes (y :: ys) [] = 1 := rfl
theorem cmp_trans : ∀ (a b c : List UInt8), Go.Lib.compareBytes a b ≤ 0 → Go.Lib.compareBytes b c ≤ 0 → Go.Lib.compareBytes a c ≤ 0 ∧ (Go.Lib.compareBytes a b < 0 ∨ Go.Lib.compareBytes b c < 0 → Go.Lib.compareBytes a c < 0)
  | [], [], c => fun _ h => ⟨h, fun h => h.elim (fun h => absurd h (by decide)) id⟩
  | [], _ :: _, [] => fun _ h => by rw [cb_cn] at h; exact absurd h (by decide)
  | [], _ :: _, _ :: _ => fun _ _ => by rw [cb_nc]; exact ⟨by decide, fun _ => by decide⟩
  | _ :: _, [], _ => fun h _ => by rw [cb_cn] at h; exact absurd h (by decide)
  | _ :: _, _ :: _, [] => fun _ h => by rw [cb_cn] at h; exact absurd h (by decide)
  | x :: xs, y :: ys, z :: zs => by
    rw [cb_cons, cb_cons, cb_cons]
    by_cases h1 : x < y
    · by_cases h2 : y < z
      · rw [if_pos h1, if_pos h2, if_pos (UInt8.lt_trans h1 h2)]; exact fun _ _ => ⟨by decide, fun _ => by decide⟩
      · rw [if_pos h1, if_neg h2]
        by_cases h3 : z < y
        · rw [if_pos h3]; exact fun _ h => absurd h (by decide)
        · have := u8_tri h2 h3; subst this
          rw [if_neg h3, if_pos h1]; exact fun _ _ => ⟨by decide, fun _ => by decide⟩
    · rw [if_neg h1]
      by_cases h3 : y < x
      · rw [if_pos h3]; exact fun h => absurd h (by decide)
      · have := u8_tri h1 h3; subst this
        rw [if_neg h3]
        by_cases h2 : x < z
        · rw [if_pos h2, if_pos h2]; exact fun _ _ => ⟨by decide, fun _ => by decide⟩
        · rw [if_neg h2]
          by_cases h4 : z < x
          · rw [if_pos h4]; exact fun _ h => absurd h (by decide)
          · rw [if_neg h4, if_neg h2, if_neg h4]; exact cmp_trans xs ys zs
/-! orders -/
structure IsCmp {α : Type} (c : α → α → Int) : Prop where
  range : ∀ a b, c a b = -1 ∨ c a b = 0 ∨ c a b = 1
  neg : ∀ a b, c b a = - c a b
  trans : ∀ a b d, c a b ≤ 0 → c b d ≤ 0 → c a d ≤ 0 ∧ (c a b < 0 ∨ c b d < 0 → c a d < 0)
def icmp (a b : Int) : Int := if a < b then -1 else if a > b then 1 else 0
theorem icmp_is : IsCmp icmp := by
  refine ⟨fun a b => ?_, fun a b => ?_, fun a b d => ?_⟩
  · unfold icmp; split <;> (try split) <;> simp
  · unfold icmp; (repeat' split) <;> omega
  · unfold icmp; (repeat' split) <;> omega
theorem IsCmp.by {α β : Type} {c : β → β → Int} (h : IsCmp c) (f : α → β) : IsCmp (fun a b => c (f a) (f b)) := ⟨fun _ _ => h.range _ _, fun _ _ => h.neg _ _, fun _ _ _ => h.trans _ _ _⟩
theorem bytes_is : IsCmp Go.Lib.compareBytes := ⟨cmp_range, cmp_neg, cmp_trans⟩
def orC {α : Type} (c d : α → α → Int) (a b : α) : Int := if c a b ≠ 0 then c a b else d a b
theorem IsCmp.or {α : Type} {c d : α → α → Int} (h : IsCmp c) (k : IsCmp d) : IsCmp (orC c d) := by
  refine ⟨fun a b => ?_, fun a b => ?_, fun x y z => ?_⟩
  · unfold orC; split
    · exact h.range a b
    · exact k.range a b
  · unfold orC
    rw [h.neg a b, k.neg a b]
    split <;> split <;> omega
  · have t := h.trans x y z
    have t' := h.trans z y x
    have u := k.trans x y z
    have n1 := h.neg x y; have n2 := h.neg y z; have n3 := h.neg x z
    unfold orC
    (repeat' split) <;> omega
theorem IsCmp.refl {α : Type} {c : α → α → Int} (h : IsCmp c) (a : α) : c a a = 0 := by have := h.neg a a; omega
theorem clone_ok (l : List Int) (h : l.length ≤ 140737488355328) : bytes_Clone.f l = some l := if_pos h
theorem next_bad (r : S_cursor_rest) (n : Int) (h : r.bad = true ∨ n < 0 ∨ n > r.left.length) : cursor_rest_next.f r n = some ([], ⟨r.left, true⟩) := by
  unfold cursor_rest_next.f
  by_cases hb : r.bad = true
  · simp [hb]
  · by_cases h1 : n < 0
    · simp [hb, h1]
    · have h2 : (r.left.length : Int) < n := by rcases h with h | h | h <;> first | exact absurd h hb | exact absurd h h1 | exact h
      simp [hb, h1, h2]
theorem next_ok (r : S_cursor_rest) (n : Int) (hb : r.bad = false) (h0 : 0 ≤ n) (h1 : n ≤ r.left.length) : cursor_rest_next.f r n = some (r.left.take n.toNat, ⟨r.left.drop n.toNat, false⟩) := by
  unfold cursor_rest_next.f
  have e0 : ¬ n < 0 := by omega
  have e1 : ¬ (r.left.length : Int) < n := by omega
  simp [hb, e0, e1, h0, h1]
def numL : List Int → Int → Int
  | [], x => x
  | c :: l, x => numL l (IntKind.i64.wrap (BitVec.ofInt IntKind.i64.bits (IntKind.i64.wrap (x * 2 ^ (min (8 : Int).toNat IntKind.i64.bits))) ||| BitVec.ofInt IntKind.i64.bits (IntKind.i64.wrap c)).toNat)
theorem num_l0 (t : List Int × S_cursor_rest) (hl : t.1.length ≤ 140737488355328) : ∀ (m k i : Nat) (x : Int), m + i = t.1.length → m < k → cursor_Reader_Num.l0 t k x (i : Int) = some (numL (t.1.drop i) x)
  | 0, k + 1, i, x, h, _ => by
    unfold cursor_Reader_Num.l0
    rw [if_neg (by simp; omega), List.drop_of_length_le (by omega)]
    rfl
  | m + 1, k + 1, i, x, h, hk => by
    unfold cursor_Reader_Num.l0
    have hi : i < t.1.length := by omega
    have e : IntKind.i64.wrap ((i : Int) + 1) = ((i + 1 : Nat) : Int) := by rw [IntKind.wrap_i64]; omega
    rw [if_pos (by simpa using hi), if_pos (by omega), e, num_l0 t hl m k (i + 1) _ (by omega) (by omega), List.drop_eq_getElem_cons hi]
    have er : rd t.1 (i : Int) = t.1[i] := by simp [rd, List.getD, hi]
    rw [er]
    rfl
theorem num_bad (k : Nat) (r : S_cursor_Reader) (n : Int) (h : r.rest.bad = true ∨ n < 1 ∨ n > 4 ∨ n > r.rest.left.length) : cursor_Reader_Num.f (k + 1) r n = some (0, ⟨⟨r.rest.left, true⟩⟩) := by
  unfold cursor_Reader_Num.f
  have hl : cursor_Reader_Num.l0 ([], ⟨r.rest.left, true⟩) (k + 1) 0 0 = some 0 := by unfold cursor_Reader_Num.l0; simp
  by_cases hs : n < 1 ∨ n > 4
  · have : (if decide (n < 1) = true then true else decide (n > 4)) = true := by rcases hs with h | h <;> simp [h]
    rw [if_pos this, Option.bind_some, next_bad _ _ (by omega), Option.bind_some, hl]
    rfl
  · have h1 : ¬ n < 1 := fun e => hs (.inl e)
    have h2 : ¬ 4 < n := fun e => hs (.inr e)
    have : ¬ (if decide (n < 1) = true then true else decide (n > 4)) = true := by simp [h1, h2]
    rw [if_neg this, Option.bind_some, next_bad _ _ (by rcases h with h | h | h | h <;> first | exact .inl h | exact absurd h h1 | exact absurd h h2 | exact .inr (.inr h)), Option.bind_some, hl]
    rfl
theorem num_ok (k : Nat) (r : S_cursor_Reader) (n : Int) (hb : r.rest.bad = false) (h1 : 1 ≤ n) (h4 : n ≤ 4) (hn : n ≤ r.rest.left.length) :
    cursor_Reader_Num.f (k + 5) r n = some (numL (r.rest.left.take n.toNat) 0, ⟨⟨r.rest.left.drop n.toNat, false⟩⟩) := by
  unfold cursor_Reader_Num.f
  have e1 : ¬ n < 1 := by omega
  have e4 : ¬ 4 < n := by omega
  rw [if_neg (by simp [e1, e4]), Option.bind_some, next_ok _ _ hb (by omega) hn, Option.bind_some]
  have hl : (r.rest.left.take n.toNat).length ≤ 4 := by simp; omega
  have := num_l0 (r.rest.left.take n.toNat, ⟨r.rest.left.drop n.toNat, false⟩) (by show (r.rest.left.take n.toNat).length ≤ _; omega) (r.rest.left.take n.toNat).length (k + 5) 0 0 rfl (by omega)
  simp only [Int.ofNat_zero, Int.natCast_zero, List.drop_zero] at this
  rw [this]
  rfl
theorem left_f (r : S_cursor_rest) : cursor_rest_Left.f r = some (if r.bad = true then 0 else (r.left.length : Int)) := by
  unfold cursor_rest_Left.f
  split <;> rfl
theorem fdiv_pos (n : Int) (d : Nat) (hn : 0 ≤ n) : Int.fdiv n (2 ^ d) = n / (2 ^ d) := Int.fdiv_eq_ediv_of_nonneg _ (Int.le_of_lt (Int.pow_pos (by decide)))
theorem put_step (n : Int) (hn : 0 ≤ n) (k : Nat) (x : List Int) (i : Nat) (hi : i ≤ 32) (hx : x.length + 1 ≤ 140737488355328) :
    cursor_Put.l0 n (k + 1) x (i : Int) = cursor_Put.l0 n k (x ++ [(n / 2 ^ i) % 256]) ((i : Int) - 8) := by
  rw [cursor_Put.l0]
  have h0 : (0 : Int) ≤ (i : Int) := by omega
  have e : IntKind.i64.wrap ((i : Int) - 8) = (i : Int) - 8 := by rw [IntKind.wrap_i64]; omega
  have hm : min ((i : Int).toNat) IntKind.i64.bits = i := by
    show min i 64 = i
    omega
  rw [if_pos (by simp), if_pos h0, if_pos (by simp; omega), e, hm, fdiv_pos _ _ hn, IntKind.wrap_u8]
theorem put_end (n : Int) (k : Nat) (x : List Int) (i : Int) (hi : i < 0) : cursor_Put.l0 n (k + 1) x i = some x := by
  rw [cursor_Put.l0, if_neg (by simp; omega)]
def putL (n : Int) : Nat → List Int
  | 1 => [n % 256]
  | 2 => [n / 256 % 256, n % 256]
  | 3 => [n / 65536 % 256, n / 256 % 256, n % 256]
  | 4 => [n / 16777216 % 256, n / 65536 % 256, n / 256 % 256, n % 256]
  | _ => []
theorem put_bad1 (k : Nat) (b : List Int) (n s : Int) (h : s < 1 ∨ s > 4) : cursor_Put.f k b n s = some ([], 1) := by
  unfold cursor_Put.f
  have : (if decide (s < 1) = true then true else decide (s > 4)) = true := by simp; omega
  rw [if_pos this]
theorem put_bad5 (k : Nat) (b : List Int) (n s : Int) (h1 : 1 ≤ s) (h4 : s ≤ 4) (h : n < 0 ∨ n ≥ 2 ^ (8 * s.toNat)) : cursor_Put.f k b n s = some ([], 5) := by
  unfold cursor_Put.f
  have : ¬ (if decide (s < 1) = true then true else decide (s > 4)) = true := by simp; omega
  rw [if_neg this]
  have e : IntKind.i64.wrap ((8 : Int) * s) = 8 * s := by rw [IntKind.wrap_i64]; omega
  rw [e]
  by_cases hn : n < 0
  · simp [hn]
  · have hge : n ≥ 2 ^ (8 * s.toNat) := h.resolve_left hn
    have hm : min ((8 * s).toNat) IntKind.i64.bits = 8 * s.toNat := by show min _ 64 = _; omega
    have hne : (Int.fdiv n (2 ^ (8 * s.toNat)) != 0) = true := by
      rw [fdiv_pos _ _ (by omega)]
      have hp : (0 : Int) < 2 ^ (8 * s.toNat) := Int.pow_pos (by decide)
      have : 1 ≤ n / 2 ^ (8 * s.toNat) := (Int.le_ediv_iff_mul_le hp).2 (by omega)
      simp; omega
    rw [if_neg (by simpa using hn), if_pos (by omega), hm, hne]
    rfl
theorem put_ok (k : Nat) (b : List Int) (n : Int) (s : Nat) (hb : b.length ≤ 140737488351232) (h1 : 1 ≤ s) (h4 : s ≤ 4) (hn : 0 ≤ n) (hlt : n < 2 ^ (8 * s)) : cursor_Put.f (k + 5) b n (s : Int) = some (b ++ putL n s, 0) := by
  unfold cursor_Put.f
  have : ¬ (if decide ((s : Int) < 1) = true then true else decide ((s : Int) > 4)) = true := by simp; omega
  rw [if_neg this]
  have e : IntKind.i64.wrap ((8 : Int) * (s : Int)) = 8 * (s : Int) := by rw [IntKind.wrap_i64]; omega
  have e2 : IntKind.i64.wrap ((8 : Int) * IntKind.i64.wrap ((s : Int) - 1)) = 8 * ((s : Int) - 1) := by rw [IntKind.wrap_i64, IntKind.wrap_i64]; omega
  rw [e, e2]
  have hm : min ((8 * (s : Int)).toNat) IntKind.i64.bits = 8 * s := by show min _ 64 = _; omega
  have hz : (Int.fdiv n (2 ^ (8 * s)) != 0) = false := by
    rw [fdiv_pos _ _ hn, Int.ediv_eq_zero_of_lt hn hlt]; rfl
  rw [if_neg (by simpa using hn), if_pos (by omega), hm, hz, Option.bind_some, if_neg (by simp), clone_ok _ (by omega), Option.bind_some]
  rcases (show s = 1 ∨ s = 2 ∨ s = 3 ∨ s = 4 by omega) with rfl | rfl | rfl | rfl
  · have := put_step n hn (k + 4) b 0 (by omega) (by omega)
    rw [show (8 : Int) * ((1 : Nat) - 1) = ((0 : Nat) : Int) from rfl, this, put_end _ _ _ _ (by omega)]
    simp [putL]
  · have s1 := put_step n hn (k + 4) b 8 (by omega) (by omega)
    have s2 := put_step n hn (k + 3) (b ++ [n / 2 ^ 8 % 256]) 0 (by omega) (by simp; omega)
    rw [show (8 : Int) * ((2 : Nat) - 1) = ((8 : Nat) : Int) from rfl, s1, show ((8 : Nat) : Int) - 8 = ((0 : Nat) : Int) from rfl, s2, put_end _ _ _ _ (by omega)]
    simp [putL]
  · have s1 := put_step n hn (k + 4) b 16 (by omega) (by omega)
    have s2 := put_step n hn (k + 3) (b ++ [n / 2 ^ 16 % 256]) 8 (by omega) (by simp; omega)
    have s3 := put_step n hn (k + 2) (b ++ [n / 2 ^ 16 % 256] ++ [n / 2 ^ 8 % 256]) 0 (by omega) (by simp; omega)
    rw [show (8 : Int) * ((3 : Nat) - 1) = ((16 : Nat) : Int) from rfl, s1, show ((16 : Nat) : Int) - 8 = ((8 : Nat) : Int) from rfl, s2, show ((8 : Nat) : Int) - 8 = ((0 : Nat) : Int) from rfl, s3, put_end _ _ _ _ (by omega)]
    simp [putL]
  · have s1 := put_step n hn (k + 4) b 24 (by omega) (by omega)
    have s2 := put_step n hn (k + 3) (b ++ [n / 2 ^ 24 % 256]) 16 (by omega) (by simp; omega)
    have s3 := put_step n hn (k + 2) (b ++ [n / 2 ^ 24 % 256] ++ [n / 2 ^ 16 % 256]) 8 (by omega) (by simp; omega)
    have s4 := put_step n hn (k + 1) (b ++ [n / 2 ^ 24 % 256] ++ [n / 2 ^ 16 % 256] ++ [n / 2 ^ 8 % 256]) 0 (by omega) (by simp; omega)
    rw [show (8 : Int) * ((4 : Nat) - 1) = ((24 : Nat) : Int) from rfl, s1, show ((24 : Nat) : Int) - 8 = ((16 : Nat) : Int) from rfl, s2, show ((16 : Nat) : Int) - 8 = ((8 : Nat) : Int) from rfl, s3, show ((8 : Nat) : Int) - 8 = ((0 : Nat) : Int) from rfl, s4, put_end _ _ _ _ (by omega)]
    simp [putL]
theorem or_step (x c : Int) (hx : 0 ≤ x) (hx2 : x < 72057594037927936) (hc : 0 ≤ c) (hc2 : c ≤ 255) :
    IntKind.i64.wrap (BitVec.ofInt IntKind.i64.bits (IntKind.i64.wrap (x * 2 ^ (min (8 : Int).toNat IntKind.i64.bits))) ||| BitVec.ofInt IntKind.i64.bits (IntKind.i64.wrap c)).toNat = IntKind.i64.wrap (x * 256 + c) := by
  obtain ⟨a, rfl⟩ := Int.eq_ofNat_of_zero_le hx
  obtain ⟨d, rfl⟩ := Int.eq_ofNat_of_zero_le hc
  congr 1
  have e1 : (BitVec.ofInt IntKind.i64.bits (IntKind.i64.wrap ((a : Int) * 2 ^ (min (8 : Int).toNat IntKind.i64.bits)))).toNat = 2 ^ 8 * a := by
    have : ((a : Int) * 2 ^ (min (8 : Int).toNat IntKind.i64.bits)) = (a : Int) * 256 := rfl
    rw [this, IntKind.wrap_i64, BitVec.toNat_ofInt]
    show (_ % ((2 ^ 64 : Nat) : Int)).toNat = _
    omega
  have e2 : (BitVec.ofInt IntKind.i64.bits (IntKind.i64.wrap (d : Int))).toNat = d := by
    rw [IntKind.wrap_i64, BitVec.toNat_ofInt]
    show (_ % ((2 ^ 64 : Nat) : Int)).toNat = _
    omega
  rw [BitVec.toNat_or, e1, e2, ← Nat.two_pow_add_eq_or_of_lt (by omega : d < 2 ^ 8)]
  omega
theorem numL_cons (c : Int) (l : List Int) (x : Int) (hx : 0 ≤ x) (hx2 : x < 4294967296) (hc : 0 ≤ c) (hc2 : c ≤ 255) : numL (c :: l) x = numL l (x * 256 + c) := by
  rw [numL, or_step x c hx (by omega) hc hc2]
  congr 1
  rw [IntKind.wrap_i64]; omega
theorem num_put (n : Int) (s : Nat) (h1 : 1 ≤ s) (h4 : s ≤ 4) (hn : 0 ≤ n) (hlt : n < 2 ^ (8 * s)) : numL (putL n s) 0 = n := by
  rcases (show s = 1 ∨ s = 2 ∨ s = 3 ∨ s = 4 by omega) with rfl | rfl | rfl | rfl <;> simp only [putL]
  · have : n < 256 := hlt
    rw [numL_cons _ _ _ (by omega) (by omega) (by omega) (by omega), numL]; omega
  · have : n < 65536 := hlt
    rw [numL_cons _ _ _ (by omega) (by omega) (by omega) (by omega), numL_cons _ _ _ (by omega) (by omega) (by omega) (by omega), numL]; omega
  · have : n < 16777216 := hlt
    rw [numL_cons _ _ _ (by omega) (by omega) (by omega) (by omega), numL_cons _ _ _ (by omega) (by omega) (by omega) (by omega), numL_cons _ _ _ (by omega) (by omega) (by omega) (by omega), numL]; omega
  · have : n < 4294967296 := hlt
    rw [numL_cons _ _ _ (by omega) (by omega) (by omega) (by omega), numL_cons _ _ _ (by omega) (by omega) (by omega) (by omega), numL_cons _ _ _ (by omega) (by omega) (by omega) (by omega), numL_cons _ _ _ (by omega) (by omega) (by omega) (by omega), numL]; omega
theorem putL_length (n : Int) (s : Nat) (h1 : 1 ≤ s) (h4 : s ≤ 4) : (putL n s).length = s := by
  rcases (show s = 1 ∨ s = 2 ∨ s = 3 ∨ s = 4 by omega) with rfl | rfl | rfl | rfl <;> rfl
theorem put_num (l : List Int) (h1 : 1 ≤ l.length) (h4 : l.length ≤ 4) (hl : ∀ y ∈ l, 0 ≤ y ∧ y ≤ 255) : 0 ≤ numL l 0 ∧ numL l 0 < 2 ^ (8 * l.length) ∧ putL (numL l 0) l.length = l := by
  match l, h1, h4, hl with
  | [a], _, _, hl =>
    have ha := hl a (by simp)
    rw [numL_cons _ _ _ (by omega) (by omega) ha.1 ha.2, numL]
    simp only [putL, List.length_cons, List.length_nil]
    exact ⟨by omega, by omega, by congr 1; omega⟩
  | [a, b], _, _, hl =>
    have ha := hl a (by simp); have hb := hl b (by simp)
    rw [numL_cons _ _ _ (by omega) (by omega) ha.1 ha.2, numL_cons _ _ _ (by omega) (by omega) hb.1 hb.2, numL]
    simp only [putL, List.length_cons, List.length_nil]
    exact ⟨by omega, by omega, by congr 1; omega; congr 1; omega⟩
  | [a, b, c], _, _, hl =>
    have ha := hl a (by simp); have hb := hl b (by simp); have hc := hl c (by simp)
    rw [numL_cons _ _ _ (by omega) (by omega) ha.1 ha.2, numL_cons _ _ _ (by omega) (by omega) hb.1 hb.2, numL_cons _ _ _ (by omega) (by omega) hc.1 hc.2, numL]
    simp only [putL, List.length_cons, List.length_nil]
    exact ⟨by omega, by omega, by congr 1; omega; congr 1; omega; congr 1; omega⟩
  | [a, b, c, d], _, _, hl =>
    have ha := hl a (by simp); have hb := hl b (by simp); have hc := hl c (by simp); have hd := hl d (by simp)
    rw [numL_cons _ _ _ (by omega) (by omega) ha.1 ha.2, numL_cons _ _ _ (by omega) (by omega) hb.1 hb.2, numL_cons _ _ _ (by omega) (by omega) hc.1 hc.2, numL_cons _ _ _ (by omega) (by omega) hd.1 hd.2, numL]
    simp only [putL, List.length_cons, List.length_nil]
    exact ⟨by omega, by omega, by congr 1; omega; congr 1; omega; congr 1; omega; congr 1; omega⟩
theorem w64 (n : Int) (h : -9223372036854775808 ≤ n ∧ n ≤ 9223372036854775807) : IntKind.i64.wrap n = n := by rw [IntKind.wrap_i64]; omega
def isB (l : List Int) : Prop := ∀ y ∈ l, 0 ≤ y ∧ y ≤ 255
theorem okL_isB {l : List Int} (h : okL 1 (okI .u8) l) : isB l := fun y hy => by
  have := h.2 y hy
  have e1 : IntKind.u8.min = 0 := rfl
  have e2 : IntKind.u8.max = 255 := rfl
  unfold okI at this
  omega
theorem okA_isB {l : List Int} {n : Nat} (h : okA .u8 n l) : isB l := fun y hy => by
  have := h.2 y hy
  have e1 : IntKind.u8.min = 0 := rfl
  have e2 : IntKind.u8.max = 255 := rfl
  unfold okI at this
  omega
theorem okL_len {l : List Int} {ok : Int → Prop} (h : okL 1 ok l) : l.length ≤ 140737488351232 := by have := h.1; unfold reachBytes at this; omega
theorem isB.app {a b : List Int} (h : isB a) (h' : isB b) : isB (a ++ b) := fun y hy => (List.mem_append.1 hy).elim (h y) (h' y)
theorem b2s_inj : ∀ {a b : List Int}, isB a → isB b → b2s a = b2s b → a = b
  | [], [], _, _, _ => rfl
  | [], _ :: _, _, _, h => by simp [b2s] at h
  | _ :: _, [], _, _, h => by simp [b2s] at h
  | x :: a, y :: b, ha, hb, h => by
    simp only [b2s, List.map_cons, List.cons.injEq] at h
    have h1 := ha x (by simp); have h2 := hb y (by simp)
    have e := congrArg UInt8.toNat h.1
    rw [UInt8.toNat_ofNat', UInt8.toNat_ofNat'] at e
    rw [b2s_inj (fun z hz => ha z (by simp [hz])) (fun z hz => hb z (by simp [hz])) h.2, show x = y by omega]
theorem b2s_beq {a b : List Int} (ha : isB a) (hb : isB b) : (b2s a == b2s b) = (a == b) := by
  rw [Bool.eq_iff_iff]
  simp only [beq_iff_eq]
  exact ⟨b2s_inj ha hb, fun e => by rw [e]⟩
theorem rd_at (l : List Int) (i : Nat) (hi : i < l.length) : rd l (i : Int) = l[i] := by simp [rd, List.getD, hi]
theorem ar_at (l : List Int) (i : Nat) (hi : i < l.length) : ar l i = l[i] := by simp [ar, List.getD, hi]
theorem arL_self (l : List Int) : arL l.length l = l := by
  apply List.ext_getElem
  · simp [arL]
  · intro i h1 h2
    simp [arL, ar_at l i h2]
/-! route distinguishers -/
def z8 : List Int := [0, 0, 0, 0, 0, 0, 0, 0]
def hiS (kind : Int) : Nat := if kind = 0 then 2 else if kind = 1 ∨ kind = 2 then 4 else 0
def loS (kind : Int) : Nat := 6 - hiS kind
def rdL (kind h l : Int) : List Int := putL kind 2 ++ putL h (hiS kind) ++ putL l (loS kind)
def fits (kind h l : Int) : Bool := decide (0 ≤ h) && (decide (h < 2 ^ (8 * hiS kind)) && (decide (0 ≤ l) && decide (l < 2 ^ (8 * loS kind))))
def makeR (kind h l : Int) : List Int × Int := if hiS kind = 0 then (z8, 1) else if fits kind h l = true then (rdL kind h l, 0) else (z8, 5)
theorem hiS_or (kind : Int) : (kind = 0 ∧ hiS kind = 2) ∨ ((kind = 1 ∨ kind = 2) ∧ hiS kind = 4) ∨ (kind ≠ 0 ∧ kind ≠ 1 ∧ kind ≠ 2 ∧ hiS kind = 0) := by
  unfold hiS
  by_cases h0 : kind = 0
  · exact .inl ⟨h0, by rw [if_pos h0]⟩
  · by_cases h1 : kind = 1 ∨ kind = 2
    · exact .inr (.inl ⟨h1, by rw [if_neg h0, if_pos h1]⟩)
    · exact .inr (.inr ⟨h0, fun e => h1 (.inl e), fun e => h1 (.inr e), by rw [if_neg h0, if_neg h1]⟩)
theorem high_ok (kind : Int) : rd_highSize.f kind = some ((hiS kind : Int), decide (hiS kind ≠ 0)) := by
  rcases hiS_or kind with ⟨rfl, h⟩ | ⟨rfl | rfl, h⟩ | ⟨h0, h1, h2, h⟩
  · rfl
  · rfl
  · rfl
  · unfold rd_highSize.f
    rw [h]
    simp [h0, h1, h2]
theorem rdL_length (kind h l : Int) (hk : hiS kind ≠ 0) : (rdL kind h l).length = 8 := by
  unfold rdL loS
  rcases hiS_or kind with ⟨rfl, e⟩ | ⟨_, e⟩ | ⟨_, _, _, e⟩
  · rw [e]; rfl
  · rw [e]; rfl
  · exact absurd e hk
theorem arC8 (b : List Int) (h : b.length = 8) : arC 8 (List.replicate 8 (0 : Int)) b = b := by
  unfold arC
  rw [List.take_of_length_le (by omega), List.drop_of_length_le (by rw [arL_length]; omega), List.append_nil]
theorem put_any (k : Nat) (b : List Int) (n : Int) (s : Nat) (hb : b.length ≤ 140737488351232) (h1 : 1 ≤ s) (h4 : s ≤ 4) : cursor_Put.f (k + 5) b n (s : Int) = some (if decide (0 ≤ n) && decide (n < 2 ^ (8 * s)) then (b ++ putL n s, 0) else ([], 5)) := by
  by_cases h : 0 ≤ n ∧ n < 2 ^ (8 * s)
  · rw [put_ok k b n s hb h1 h4 h.1 h.2, if_pos (by simp [h.1, h.2])]
  · rw [put_bad5 (k + 5) b n s (by omega) (by omega) (by rw [Int.toNat_natCast]; omega), if_neg (by simp; omega)]
theorem make_ok (k : Nat) (kind h l : Int) : rd_Make.f (k + 5) kind h l = some (makeR kind h l) := by
  unfold rd_Make.f makeR
  rw [high_ok, Option.bind_some]
  by_cases hk : hiS kind = 0
  · rw [if_pos hk, hk]; rfl
  · rw [if_neg hk]
    have hs : 1 ≤ hiS kind ∧ hiS kind ≤ 4 ∧ 1 ≤ loS kind ∧ loS kind ≤ 4 ∧ 0 ≤ kind ∧ kind < 65536 ∧ (6 : Int) - hiS kind = loS kind := by
      unfold loS
      rcases hiS_or kind with ⟨rfl, e⟩ | ⟨rfl | rfl, e⟩ | ⟨_, _, _, e⟩ <;> first | exact absurd e hk | (rw [e]; decide)
    have p1 := put_any k [] kind 2 (by simp) (by decide) (by decide)
    rw [if_pos (by simp; omega)] at p1
    simp only [hk, ne_eq, not_false_eq_true, decide_true, Bool.not_true, Bool.false_eq_true, if_false]
    rw [show (2 : Int) = ((2 : Nat) : Int) from rfl, p1, Option.bind_some, put_any k _ h (hiS kind) (by simp [putL]) hs.1 hs.2.1, Option.bind_some]
    by_cases h1 : (decide (0 ≤ h) && decide (h < 2 ^ (8 * hiS kind))) = true
    · rw [if_pos h1, w64 _ (by omega), hs.2.2.2.2.2.2]
      simp only [beq_self_eq_true, if_true]
      rw [put_any k _ l (loS kind) (by rw [List.length_append, putL_length h _ hs.1 hs.2.1]; simp [putL]; omega) hs.2.2.1 hs.2.2.2.1, Option.bind_some, Option.bind_some]
      by_cases h2 : (decide (0 ≤ l) && decide (l < 2 ^ (8 * loS kind))) = true
      · have hf : fits kind h l = true := by unfold fits; rw [← Bool.and_assoc, h1, h2]; rfl
        rw [if_pos h2, hf]
        simp only [bne_self_eq_false, Bool.false_eq_true, if_false, if_true, List.nil_append]
        rw [arC8 _ (by have := rdL_length kind h l hk; unfold rdL at this; exact this)]
        rfl
      · have hf : fits kind h l = false := by unfold fits; rw [← Bool.and_assoc, h1]; simpa using h2
        rw [if_neg h2, hf]
        rfl
    · have hf : fits kind h l = false := by
        have h1' := Bool.eq_false_iff.2 h1
        unfold fits; rw [← Bool.and_assoc, h1']; rfl
      rw [if_neg h1, hf]
      rfl
theorem eqA8 {x y : List Int} (hx : x.length = 8) (hy : y.length = 8) : eqA 8 x y = (x == y) := by
  rw [Bool.eq_iff_iff, eqA_iff]
  simp only [beq_iff_eq]
  refine ⟨fun h => ?_, fun e => by subst e; exact fun _ _ => rfl⟩
  apply List.ext_getElem
  · omega
  · intro i h1 h2
    have := h i (by omega)
    rwa [ar_at _ _ h1, ar_at _ _ h2] at this
theorem arL8 {x : List Int} (h : x.length = 8) : arL 8 x = x := by have := arL_self x; rwa [h] at this
theorem small_ok (k : Nat) : vinerylaw03_small.f (k + 60) = some true := by kernel_rfl
theorem rdcmp_ok (a b : List Int) (ha : a.length = 8) (hb : b.length = 8) : rd_Compare.f a b = some (Go.Lib.compareBytes (b2s a) (b2s b)) := by
  unfold rd_Compare.f cursor_Order.f bytes_Compare.f
  rw [arL8 ha, arL8 hb, eqA8 ha hb]
  by_cases h : a = b
  · subst h
    rw [if_pos (by simp), (cmp_eq0 _ _).2 rfl]
  · rw [if_neg (by simpa using h)]; rfl
theorem u8_lt {x y : Int} (hx : 0 ≤ x ∧ x ≤ 255) (hy : 0 ≤ y ∧ y ≤ 255) : (UInt8.ofNat x.toNat < UInt8.ofNat y.toNat) ↔ x < y := by
  rw [UInt8.lt_iff_toNat_lt, UInt8.toNat_ofNat', UInt8.toNat_ofNat']
  omega
theorem cb_int {x y : Int} (hx : 0 ≤ x ∧ x ≤ 255) (hy : 0 ≤ y ∧ y ≤ 255) (a b : List Int) : Go.Lib.compareBytes (b2s (x :: a)) (b2s (y :: b)) = if x < y then -1 else if y < x then 1 else Go.Lib.compareBytes (b2s a) (b2s b) := by
  show Go.Lib.compareBytes (UInt8.ofNat x.toNat :: b2s a) (UInt8.ofNat y.toNat :: b2s b) = _
  rw [cb_cons]
  simp only [u8_lt hx hy, u8_lt hy hx]
theorem cb_put (n m : Int) (s : Nat) (h : s = 2 ∨ s = 4) (hn : 0 ≤ n ∧ n < 2 ^ (8 * s)) (hm : 0 ≤ m ∧ m < 2 ^ (8 * s)) (a b : List Int) :
    Go.Lib.compareBytes (b2s (putL n s ++ a)) (b2s (putL m s ++ b)) = if n < m then -1 else if m < n then 1 else Go.Lib.compareBytes (b2s a) (b2s b) := by
  rcases h with rfl | rfl
  · have h1 : n < 65536 := hn.2
    have h2 : m < 65536 := hm.2
    simp only [putL, List.cons_append, List.nil_append]
    rw [cb_int (by omega) (by omega), cb_int (by omega) (by omega)]
    (repeat' split) <;> first | rfl | omega
  · have h1 : n < 4294967296 := hn.2
    have h2 : m < 4294967296 := hm.2
    simp only [putL, List.cons_append, List.nil_append]
    rw [cb_int (by omega) (by omega), cb_int (by omega) (by omega), cb_int (by omega) (by omega), cb_int (by omega) (by omega)]
    (repeat' split) <;> first | rfl | omega
theorem hs_of {kind : Int} (hk : hiS kind ≠ 0) : (hiS kind = 2 ∨ hiS kind = 4) ∧ (loS kind = 2 ∨ loS kind = 4) ∧ 0 ≤ kind ∧ kind < 65536 := by
  unfold loS
  rcases hiS_or kind with ⟨rfl, e⟩ | ⟨rfl | rfl, e⟩ | ⟨_, _, _, e⟩ <;> first | exact absurd e hk | (rw [e]; decide)
def partsR (d : List Int) : Int × Int × Int × Bool :=
  if hiS (numL (d.take 2) 0) = 0 then (0, 0, 0, false)
  else (numL (d.take 2) 0, numL ((d.drop 2).take (hiS (numL (d.take 2) 0))) 0, numL (d.drop (2 + hiS (numL (d.take 2) 0))) 0, true)
theorem parts_ok (k : Nat) (d : List Int) (hd : d.length = 8) : rd_Parts.f (k + 20) d = some (partsR d) := by
  unfold rd_Parts.f partsR cursor_Open.f
  rw [arL8 hd, clone_ok d (by omega), Option.bind_some, Option.bind_some]
  have n1 := num_ok (k + 15) ⟨⟨d, false⟩⟩ 2 rfl (by decide) (by decide) (by simp; omega)
  simp only [show k + 15 + 5 = k + 20 from rfl, show (Int.toNat (2 : Int)) = 2 from rfl] at n1
  simp only [n1, Option.bind_some, high_ok]
  generalize hkd : numL (d.take 2) 0 = kind
  by_cases hk : hiS kind = 0
  · rw [if_pos hk]; simp [hk]
  · have hs := hs_of hk
    have e2 : loS kind = 6 - hiS kind := rfl
    have n2 := num_ok (k + 15) ⟨⟨d.drop 2, false⟩⟩ (hiS kind) rfl (by omega) (by omega) (by simp; omega)
    have n3 := num_ok (k + 15) ⟨⟨(d.drop 2).drop (hiS kind), false⟩⟩ (loS kind) rfl (by omega) (by omega) (by simp; omega)
    have ln : (((d.drop 2).drop (hiS kind)).length : Int) = (loS kind : Int) := by simp; omega
    simp only [show k + 15 + 5 = k + 20 from rfl, Int.toNat_natCast] at n2 n3
    rw [if_neg hk]
    simp only [hk, ne_eq, not_false_eq_true, decide_true, Bool.not_true, Bool.false_eq_true, if_false, n2, Option.bind_some, left_f, ln, n3]
    have e3 : ((d.drop 2).drop (hiS kind)).take (loS kind) = d.drop (2 + hiS kind) := by
      rw [List.drop_drop, List.take_of_length_le (by simp; omega)]
    rw [e3]
theorem refbytes_step (n : Int) (hn : 0 ≤ n) (k : Nat) (x : List Int) (i : Nat) (hi : i ≤ 4) (hx : x.length + 1 ≤ 140737488355328) :
    vineryref01_Bytes.l0 n (k + 1) x (i : Int) = vineryref01_Bytes.l0 n k (x ++ [(n / 2 ^ (8 * i)) % 256]) ((i : Int) - 1) := by
  rw [vineryref01_Bytes.l0]
  have e : IntKind.i64.wrap ((i : Int) - 1) = (i : Int) - 1 := by rw [IntKind.wrap_i64]; omega
  have e2 : IntKind.i64.wrap ((8 : Int) * (i : Int)) = ((8 * i : Nat) : Int) := by rw [IntKind.wrap_i64]; omega
  have hm : min (Int.toNat ((8 * i : Nat) : Int)) IntKind.i64.bits = 8 * i := by
    show min (8 * i) 64 = _
    omega
  rw [if_pos (by simp), e2, if_pos (by omega), if_pos (by simp; omega), e, hm, fdiv_pos _ _ hn, IntKind.wrap_u8]
theorem refbytes_end (n : Int) (k : Nat) (x : List Int) (i : Int) (hi : i < 0) : vineryref01_Bytes.l0 n (k + 1) x i = some x := by
  rw [vineryref01_Bytes.l0, if_neg (by simp; omega)]
theorem refbytes_ok (k : Nat) (n : Int) (s : Nat) (h1 : 1 ≤ s) (h4 : s ≤ 4) (hn : 0 ≤ n) : vineryref01_Bytes.f (k + 5) n (s : Int) = some (putL n s) := by
  unfold vineryref01_Bytes.f
  have e2 : IntKind.i64.wrap ((s : Int) - 1) = ((s - 1 : Nat) : Int) := by rw [IntKind.wrap_i64]; omega
  rw [e2]
  rcases (show s = 1 ∨ s = 2 ∨ s = 3 ∨ s = 4 by omega) with rfl | rfl | rfl | rfl
  · rw [refbytes_step n hn _ _ 0 (by omega) (by simp), refbytes_end _ _ _ _ (by omega)]
    simp [putL]
  · rw [refbytes_step n hn _ _ 1 (by omega) (by simp), show ((1 : Nat) : Int) - 1 = ((0 : Nat) : Int) from rfl, refbytes_step n hn _ _ 0 (by omega) (by simp), refbytes_end _ _ _ _ (by omega)]
    simp [putL]
  · rw [refbytes_step n hn _ _ 2 (by omega) (by simp), show ((2 : Nat) : Int) - 1 = ((1 : Nat) : Int) from rfl, refbytes_step n hn _ _ 1 (by omega) (by simp), show ((1 : Nat) : Int) - 1 = ((0 : Nat) : Int) from rfl, refbytes_step n hn _ _ 0 (by omega) (by simp), refbytes_end _ _ _ _ (by omega)]
    simp [putL]
  · rw [refbytes_step n hn _ _ 3 (by omega) (by simp), show ((3 : Nat) : Int) - 1 = ((2 : Nat) : Int) from rfl, refbytes_step n hn _ _ 2 (by omega) (by simp), show ((2 : Nat) : Int) - 1 = ((1 : Nat) : Int) from rfl, refbytes_step n hn _ _ 1 (by omega) (by simp), show ((1 : Nat) : Int) - 1 = ((0 : Nat) : Int) from rfl, refbytes_step n hn _ _ 0 (by omega) (by simp), refbytes_end _ _ _ _ (by omega)]
    simp [putL]
/-! the document's answers -/
theorem rwidths_ok (kind : Int) : vineryref03_widths.f kind = some ((hiS kind : Int), if hiS kind = 0 then 0 else (loS kind : Int)) := by
  unfold loS
  rcases hiS_or kind with ⟨rfl, h⟩ | ⟨rfl | rfl, h⟩ | ⟨h0, h1, h2, h⟩
  · rfl
  · rfl
  · rfl
  · unfold vineryref03_widths.f
    rw [h]
    simp [h0, h1, h2]
theorem rofd_step (b : List Int) (hb : b.length = 8) (i : Nat) (hi : i < 8) : (arL 8 (arC 8 (List.replicate 8 (0 : Int)) (b.take i))).set i (rd b (i : Int)) = arC 8 (List.replicate 8 (0 : Int)) (b.take (i + 1)) := by
  have hla : (arC 8 (List.replicate 8 (0 : Int)) (b.take i)).length = 8 := arC_length _ _ _
  have hlb : (arC 8 (List.replicate 8 (0 : Int)) (b.take (i + 1))).length = 8 := arC_length _ _ _
  have e := arL_self (arC 8 (List.replicate 8 (0 : Int)) (b.take i))
  rw [hla] at e
  rw [e]
  apply List.ext_getElem
  · rw [List.length_set, hla, hlb]
  · intro j h1 h2
    rw [List.length_set, hla] at h1
    rw [List.getElem_set]
    have g1 := ar_at (arC 8 (List.replicate 8 (0 : Int)) (b.take i)) j (by omega)
    have g2 := ar_at (arC 8 (List.replicate 8 (0 : Int)) (b.take (i + 1))) j (by omega)
    rw [← g2, ar_arC _ _ _ _ h1]
    by_cases hij : i = j
    · subst hij
      rw [if_pos rfl, if_pos (by rw [List.length_take]; omega), rd_at b i (by omega), ar_at _ _ (by rw [List.length_take]; omega), List.getElem_take]
    · rw [if_neg hij, ← g1, ar_arC _ _ _ _ h1]
      by_cases hlt : j < i
      · rw [if_pos (by rw [List.length_take]; omega), if_pos (by rw [List.length_take]; omega), ar_at _ _ (by rw [List.length_take]; omega), ar_at _ _ (by rw [List.length_take]; omega), List.getElem_take, List.getElem_take]
      · rw [if_neg (by rw [List.length_take]; omega), if_neg (by rw [List.length_take]; omega)]
theorem rofd_go (b : List Int) (hb : b.length = 8) : ∀ (m k i : Nat), i + m = 8 → m < k → vineryref03_Of.l0 b k (i : Int) (arC 8 (List.replicate 8 (0 : Int)) (b.take i)) = some b
  | 0, k + 1, i, hi, _ => by
    obtain rfl : i = 8 := by omega
    rw [vineryref03_Of.l0, if_neg (by simp), List.take_of_length_le (by omega), arC8 b hb]
  | m + 1, k + 1, i, hi, hk => by
    have e : IntKind.i64.wrap ((i : Int) + 1) = ((i + 1 : Nat) : Int) := by rw [w64 _ (by omega)]; omega
    rw [vineryref03_Of.l0, if_pos (by simp; omega), if_pos (by omega), if_pos (by omega), Int.toNat_natCast, e, rofd_step b hb i (by omega)]
    exact rofd_go b hb m k (i + 1) (by omega) (by omega)
theorem rofd_ok (k : Nat) (b : List Int) (hb : b.length = 8) : vineryref03_Of.f (k + 20) b = some b := by
  unfold vineryref03_Of.f
  have := rofd_go b hb 8 (k + 20) 0 (by omega) (by omega)
  rw [show vineryref03_Of.l0 b (k + 20) (0 : Int) (List.replicate 8 (0 : Int)) = some b from this]; rfl
theorem pow8 (s : Nat) (h : s = 2 ∨ s = 4) : IntKind.i64.wrap ((1 : Int) * 2 ^ (min (Int.toNat (IntKind.i64.wrap ((8 : Int) * (s : Int)))) IntKind.i64.bits)) = 2 ^ (8 * s) := by
  rcases h with rfl | rfl <;> decide
theorem rmake_ok (k : Nat) (kind h l : Int) : vineryref03_Make.f (k + 20) kind h l = some (makeR kind h l) := by
  unfold vineryref03_Make.f makeR
  rw [rwidths_ok, Option.bind_some]
  by_cases hk : hiS kind = 0
  · rw [if_pos hk, hk]; rfl
  · have hs := hs_of hk
    rw [if_neg hk, if_neg hk]
    simp only [pow8 _ hs.1, pow8 _ hs.2.1]
    rw [if_neg (by simp; omega)]
    have q1 : (0 : Int) ≤ IntKind.i64.wrap (8 * (hiS kind : Int)) := by rw [w64 _ (by omega)]; omega
    have q2 : (0 : Int) ≤ IntKind.i64.wrap (8 * (loS kind : Int)) := by rw [w64 _ (by omega)]; omega
    simp only [if_pos q1, if_pos q2]
    have ef : (((if decide (h < 0) = true then some true else if decide (l < 0) = true then some true else if decide (h ≥ 2 ^ (8 * hiS kind)) = true then some true else some (decide (l ≥ 2 ^ (8 * loS kind))) : Option Bool))) = some (!fits kind h l) := by
      unfold fits
      by_cases a1 : h < 0
      · rw [if_pos (by simpa using a1), decide_eq_false (by omega)]; rfl
      · rw [if_neg (by simpa using a1), decide_eq_true (show 0 ≤ h by omega)]
        by_cases a2 : l < 0
        · rw [if_pos (by simpa using a2), decide_eq_false (show ¬ 0 ≤ l by omega)]; simp
        · rw [if_neg (by simpa using a2), decide_eq_true (show 0 ≤ l by omega)]
          by_cases a3 : h ≥ 2 ^ (8 * hiS kind)
          · rw [if_pos (by simpa using a3), decide_eq_false (show ¬ h < 2 ^ (8 * hiS kind) by omega)]; rfl
          · rw [if_neg (by simpa using a3), decide_eq_true (show h < 2 ^ (8 * hiS kind) by omega)]
            by_cases a4 : l ≥ 2 ^ (8 * loS kind)
            · rw [decide_eq_true a4, decide_eq_false (show ¬ l < 2 ^ (8 * loS kind) by omega)]; rfl
            · rw [decide_eq_false a4, decide_eq_true (show l < 2 ^ (8 * loS kind) by omega)]; rfl
    rw [ef, Option.bind_some]
    cases hf : fits kind h l with
    | false => rfl
    | true =>
      unfold fits at hf
      simp only [Bool.and_eq_true, decide_eq_true_eq] at hf
      have b1 := refbytes_ok (k + 15) kind 2 (by decide) (by decide) hs.2.2.1
      have b2 := refbytes_ok (k + 15) h (hiS kind) (by omega) (by omega) hf.1
      have b3 := refbytes_ok (k + 15) l (loS kind) (by omega) (by omega) hf.2.2.1
      simp only [show k + 15 + 5 = k + 20 from rfl] at b1 b2 b3
      simp only [Bool.not_true, Bool.false_eq_true, if_false, if_true]
      rw [show (2 : Int) = ((2 : Nat) : Int) from rfl, b1, Option.bind_some, b2, Option.bind_some]
      have l1 := putL_length kind 2 (by decide) (by decide)
      have l2 := putL_length h (hiS kind) (by omega) (by omega)
      have l3 := putL_length l (loS kind) (by omega) (by omega)
      rw [if_pos (by omega), b3, Option.bind_some, if_pos (by rw [List.length_append]; omega)]
      have := rofd_ok k (rdL kind h l) (rdL_length kind h l hk)
      unfold rdL at this
      rw [this]
      rfl

theorem numL_lt : ∀ (l : List Int), l.length ≤ 4 → (∀ y ∈ l, 0 ≤ y ∧ y ≤ 255) → l ≠ [] → 0 ≤ numL l 0 ∧ numL l 0 < 4294967296 := fun l h4 hl hn => by
  have h1 : 1 ≤ l.length := List.length_pos_iff.2 hn
  obtain ⟨a, b, _⟩ := put_num l h1 h4 hl
  refine ⟨a, ?_⟩
  rcases (show l.length = 1 ∨ l.length = 2 ∨ l.length = 3 ∨ l.length = 4 by omega) with e | e | e | e <;> rw [e] at b
  · have : numL l 0 < 256 := b
    omega
  · have : numL l 0 < 65536 := b
    omega
  · have : numL l 0 < 16777216 := b
    omega
  · exact b
theorem big_go (l : List Int) (hl : ∀ y ∈ l, 0 ≤ y ∧ y ≤ 255) (h4 : l.length ≤ 4) : ∀ (m k i : Nat) (x : Int), i + m = l.length → m < k → 0 ≤ x → x < 256 ^ i → vineryref01_Big.l0 l k x (i : Int) = some (numL (l.drop i) x)
  | 0, k + 1, i, x, hi, _, _, _ => by
    rw [vineryref01_Big.l0, if_neg (by simp; omega), List.drop_of_length_le (by omega)]; rfl
  | m + 1, k + 1, i, x, hi, hk, h0, hx => by
    have hlt : i < l.length := by omega
    have hx3 : x < 16777216 := by
      rcases (show i = 0 ∨ i = 1 ∨ i = 2 ∨ i = 3 by omega) with e | e | e | e <;> rw [e] at hx
      · have : x < 1 := hx
        omega
      · have : x < 256 := hx
        omega
      · have : x < 65536 := hx
        omega
      · exact hx
    have hc := hl l[i] (List.getElem_mem hlt)
    have e : IntKind.i64.wrap ((i : Int) + 1) = ((i + 1 : Nat) : Int) := by rw [w64 _ (by omega)]; omega
    rw [vineryref01_Big.l0, if_pos (by simp; omega), if_pos (by omega), e, rd_at l i hlt, w64 (x * 256) (by omega), w64 l[i] (by omega), w64 (x * 256 + l[i]) (by omega), List.drop_eq_getElem_cons hlt, numL_cons _ _ _ h0 (by omega) hc.1 hc.2]
    refine big_go l hl h4 m k (i + 1) _ (by omega) (by omega) (by omega) ?_
    generalize l[i] = c at hc
    rcases (show i = 0 ∨ i = 1 ∨ i = 2 ∨ i = 3 by omega) with e | e | e | e <;> rw [e] at hx ⊢
    · have : x < 1 := hx
      show _ < (256 : Int)
      omega
    · have : x < 256 := hx
      show _ < (65536 : Int)
      omega
    · have : x < 65536 := hx
      show _ < (16777216 : Int)
      omega
    · have : x < 16777216 := hx
      show _ < (4294967296 : Int)
      omega
theorem big_ok (k : Nat) (l : List Int) (hl : ∀ y ∈ l, 0 ≤ y ∧ y ≤ 255) (h4 : l.length ≤ 4) : vineryref01_Big.f (k + 5) l = some (numL l 0) := by
  unfold vineryref01_Big.f
  have := big_go l hl h4 l.length (k + 5) 0 0 (by omega) (by omega) (by omega) (by decide)
  rw [show vineryref01_Big.l0 l (k + 5) (0 : Int) (0 : Int) = _ from this]; rfl
theorem rparts_ok (k : Nat) (d : List Int) (hd : d.length = 8) (hB : isB d) : vineryref03_Parts.f (k + 5) d = some (partsR d) := by
  have sub : ∀ (i j : Nat), ∀ y ∈ (d.take i).drop j, 0 ≤ y ∧ y ≤ 255 := fun i j y hy => hB y (List.mem_of_mem_take (List.mem_of_mem_drop hy))
  unfold vineryref03_Parts.f partsR
  rw [arL8 hd, if_pos (by decide), show (Int.toNat (0 : Int)) = 0 from rfl, show (Int.toNat (2 : Int)) = 2 from rfl, big_ok k _ (sub 2 0) (by simp; omega), Option.bind_some, List.drop_zero, rwidths_ok, Option.bind_some]
  generalize hkd : numL (d.take 2) 0 = kind
  by_cases hk : hiS kind = 0
  · rw [if_pos hk, hk]; rfl
  · have hs := hs_of hk
    have e2 : loS kind = 6 - hiS kind := rfl
    have w2 : IntKind.i64.wrap (2 + (hiS kind : Int)) = ((2 + hiS kind : Nat) : Int) := by rw [w64 _ (by omega)]; omega
    rw [if_neg hk, if_neg hk, if_neg (by simp; omega), w2, if_pos (by omega), Int.toNat_natCast, big_ok k _ (sub _ 2) (by simp; omega), Option.bind_some, if_pos (by omega), show (Int.toNat (8 : Int)) = 8 from rfl, big_ok k _ (sub 8 _) (by simp; omega), Option.bind_some, List.take_of_length_le (show d.length ≤ 8 by omega), List.drop_take, show 2 + hiS kind - 2 = hiS kind by omega]
theorem b2s_cons (x : Int) (l : List Int) : b2s (x :: l) = UInt8.ofNat x.toNat :: b2s l := rfl
def refTail (a b : List Int) (s6 : Int ⊕ Unit) : Option Int := match s6 with | .inl r => some r | .inr _ => (if (decide ((a.length : Int) < (b.length : Int))) = true then some (((-1 : Int) : Int)) else (if (decide ((a.length : Int) > (b.length : Int))) = true then some (((1 : Int) : Int)) else some (((0 : Int) : Int))))
theorem reforder_cond (a b : List Int) (i : Nat) : (if (decide ((i : Int) < (a.length : Int))) = true then (decide ((i : Int) < (b.length : Int))) else false) = decide (i < a.length ∧ i < b.length) := by
  by_cases h1 : i < a.length <;> by_cases h2 : i < b.length <;> simp [h1, h2]
theorem reforder_go (a b : List Int) (ha : isB a) (hb : isB b) (hla : a.length ≤ 140737488351232) : ∀ (m k i : Nat), min a.length b.length ≤ m + i → m < k → i ≤ a.length → i ≤ b.length →
    (vineryref01_Order.l0 a b k (i : Int)).bind (refTail a b) = some (Go.Lib.compareBytes (b2s (a.drop i)) (b2s (b.drop i))) := by
  intro m
  induction m with
  | zero =>
    intro k i hm hk hia hib
    obtain ⟨k, rfl⟩ : ∃ k', k = k' + 1 := ⟨k - 1, by omega⟩
    unfold vineryref01_Order.l0
    rw [reforder_cond]
    have hc : ¬ (i < a.length ∧ i < b.length) := by omega
    simp only [hc, decide_false, Bool.false_eq_true, if_false, Option.bind_some, refTail]
    by_cases h1 : a.length < b.length
    · have e1 : a.drop i = [] := List.drop_of_length_le (by omega)
      have e2 : b.drop i = b[i]'(by omega) :: b.drop (i + 1) := List.drop_eq_getElem_cons (by omega)
      rw [if_pos (by simpa using h1), e1, e2]
      rfl
    · rw [if_neg (by simpa using h1)]
      have e2 : b.drop i = [] := List.drop_of_length_le (by omega)
      by_cases h2 : b.length < a.length
      · have e1 : a.drop i = a[i]'(by omega) :: a.drop (i + 1) := List.drop_eq_getElem_cons (by omega)
        rw [if_pos (by simpa using h2), e1, e2]
        rfl
      · have e1 : a.drop i = [] := List.drop_of_length_le (by omega)
        rw [if_neg (by simpa using h2), e1, e2]
        rfl
  | succ m ih =>
    intro k i hm hk hia hib
    by_cases hlt : i < a.length ∧ i < b.length
    · obtain ⟨k, rfl⟩ : ∃ k', k = k' + 1 := ⟨k - 1, by omega⟩
      have e1 : a.drop i = a[i]'(by omega) :: a.drop (i + 1) := List.drop_eq_getElem_cons (by omega)
      have e2 : b.drop i = b[i]'(by omega) :: b.drop (i + 1) := List.drop_eq_getElem_cons (by omega)
      have ba := ha a[i] (by simp)
      have bb := hb b[i] (by simp)
      rw [e1, e2, b2s_cons, b2s_cons, cb_cons]
      simp only [u8_lt ba bb, u8_lt bb ba]
      unfold vineryref01_Order.l0
      have ei : IntKind.i64.wrap ((i : Int) + 1) = ((i + 1 : Nat) : Int) := by rw [IntKind.wrap_i64]; omega
      have ra : (0 : Int) ≤ (i : Int) ∧ (i : Int) < (a.length : Int) := by omega
      have rb : (0 : Int) ≤ (i : Int) ∧ (i : Int) < (b.length : Int) := by omega
      rw [reforder_cond]
      simp only [hlt, and_self, decide_true, if_true, ra, rb, rd_at a i hlt.1, rd_at b i hlt.2, decide_eq_true_eq, gt_iff_lt, ei]
      by_cases h1 : a[i] < b[i]
      · rw [if_pos h1, if_pos h1]; rfl
      · rw [if_neg h1, if_neg h1]
        by_cases h2 : b[i] < a[i]
        · rw [if_pos h2, if_pos h2]; rfl
        · rw [if_neg h2, if_neg h2, ih k (i + 1) (by omega) (by omega) (by omega) (by omega)]
    · exact ih k i (by omega) (by omega) hia hib
theorem reforder_ok (k : Nat) (a b : List Int) (ha : isB a) (hb : isB b) (hla : a.length ≤ 140737488351232) (hk : a.length < k) : vineryref01_Order.f k a b = some (Go.Lib.compareBytes (b2s a) (b2s b)) := by
  unfold vineryref01_Order.f
  exact reforder_go a b ha hb hla a.length k 0 (by omega) hk (by omega) (by omega)
theorem RdMakes.law (kind : Int) (hkd : okI .i64 kind) (h : Int) (hh : okI .i64 h) (l : Int) (hl : okI .i64 l) (d : List Int) (hd : okA .u8 8 d) (o : List Int) (ho : okA .u8 8 o) : ∃ k, vinerylaw03_RdMakes.f k kind h l d o = some true := by
  refine ⟨60, ?_⟩
  have Bd := okA_isB hd; have Bo := okA_isB ho
  have ld : d.length = 8 := hd.1
  have lo : o.length = 8 := ho.1
  have m1 := make_ok 55 kind h l
  have m2 := rmake_ok 40 kind h l
  have p1 := parts_ok 40 d ld
  have p2 := rparts_ok 55 d ld Bd
  have c1 := rdcmp_ok d o ld lo
  have c2 : vineryref03_Compare.f 60 d o = some (Go.Lib.compareBytes (b2s d) (b2s o)) := by
    unfold vineryref03_Compare.f
    rw [arL8 ld, arL8 lo, reforder_ok 60 d o Bd Bo (by omega) (by omega)]; rfl
  simp only [show 55 + 5 = 60 from rfl, show 40 + 20 = 60 from rfl] at m1 m2 p1 p2
  unfold vinerylaw03_RdMakes.f
  rw [small_ok 0, Option.bind_some, m1, Option.bind_some, m2, Option.bind_some, p1, Option.bind_some, p2, Option.bind_some]
  have es : ∀ z : List Int, eqA 8 z z = true := fun z => (eqA_iff _ _ _).2 fun _ _ => rfl
  simp [es, c1, c2]
end Go.E
