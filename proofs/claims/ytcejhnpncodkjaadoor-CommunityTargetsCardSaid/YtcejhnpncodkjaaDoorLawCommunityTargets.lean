/- The plain law: what the walk computes is true, whatever the input. -/
import Derived.Test.YtcejhnpncodkjaaDoorGenCommunityTargets
import Derived.Test.YtcejhnpncodkjaaDoorEngR
set_option linter.unusedVariables false
set_option linter.unusedSimpArgs false
namespace Go.E
theorem bstr_toList (l : List UInt8) : (bstr l).toList = l := by rw [ByteArray.toList_eq]; simp [bstr]
theorem cmp_range : ∀ (a b : List UInt8), Go.Lib.compareBytes a b = -1 ∨ Go.Lib.compareBytes a b = 0 ∨ Go.Lib.compareBytes a b = 1
  | [], [] => .inr (.inl rfl)
  | [], _ :: _ => .inl rfl
  | _ :: _, [] => .inr (.inr rfl)
  | x :: xs, y :: ys => by
    unfold Go.Lib.compareBytes
    split
    · exact .inl rfl
    · split
      · exact .inr (.inr rfl)
      · exact cmp_range xs ys
theorem u8_tri {x y : UInt8} (h : ¬ x < y) (h' : ¬ y < x) : x = y := UInt8.le_antisymm (UInt8.not_lt.1 h') (UInt8.not_lt.1 h)
theorem cb_cons (x y : UInt8) (xs ys : List UInt8) : Go.Lib.compareBytes (x :: xs) (y :: ys) = if x < y then -1 else if y < x then 1 else Go.Lib.compareBytes xs ys := rfl
theorem cmp_neg : ∀ (a b : List UInt8), Go.Lib.compareBytes b a = - Go.Lib.compareBytes a b
  | [], [] => rfl
  | [], _ :: _ => rfl
  | _ :: _, [] => rfl
  | x :: xs, y :: ys => by
    rw [cb_cons, cb_cons]
    by_cases h : x < y
    · rw [if_pos h, if_neg (UInt8.lt_asymm h), if_pos h]; rfl
    · rw [if_neg h, if_neg h]
      by_cases h' : y < x
      · rw [if_pos h', if_pos h']
      · rw [if_neg h', if_neg h', cmp_neg xs ys]
theorem cmp_eq0 : ∀ (a b : List UInt8), Go.Lib.compareBytes a b = 0 ↔ a = b
  | [], [] => by simp [Go.Lib.compareBytes]
  | [], _ :: _ => by simp [Go.Lib.compareBytes]
  | _ :: _, [] => by simp [Go.Lib.compareBytes]
  | x :: xs, y :: ys => by
    rw [cb_cons]
    by_cases h : x < y
    · rw [if_pos h]
      refine ⟨fun h => absurd h (by decide), fun e => ?_⟩
      injection e with e _; subst e; exact absurd h (UInt8.lt_irrefl _)
    · rw [if_neg h]
      by_cases h' : y < x
      · rw [if_pos h']
        refine ⟨fun h => absurd h (by decide), fun e => ?_⟩
        injection e with e _; subst e; exact absurd h' (UInt8.lt_irrefl _)
      · rw [if_neg h', cmp_eq0 xs ys, u8_tri h h']; simp
theorem cmp_less : ∀ (a b : List UInt8), decide (Go.Lib.compareBytes a b < 0) = Op.bytesLess a b
  | [], [] => rfl
  | [], _ :: _ => rfl
  | _ :: _, [] => rfl
  | x :: xs, y :: ys => by
    rw [cb_cons]
    unfold Op.bytesLess
    by_cases h : x < y
    · simp [h]
    · rw [if_neg h]
      by_cases h' : y < x
      · rw [if_pos h']
        have : x ≠ y := fun e => by subst e; exact UInt8.lt_irrefl _ h'
        simp [h, this]
      · rw [if_neg h', cmp_less xs ys]
        have := u8_tri h h'
        subst this
        simp [h]
theorem cb_nc (y : UInt8) (ys : List UInt8) : Go.Lib.compareBytes [] (y :: ys) = -1 := rfl
theorem cb_cn (y : UInt8) (ys : List UInt8) : Go.Lib.compareBytes (y :: ys) [] = 1 := rfl
theorem cmp_trans : ∀ (a b c : List UInt8), Go.Lib.compareBytes a b ≤ 0 → Go.Lib.compareBytes b c ≤ 0 → Go.Lib.compareBytes a c ≤ 0 ∧ (Go.Lib.compareBytes a b < 0 ∨ Go.Lib.compareBytes b c < 0 → Go.Lib.compareBytes a c < 0)
  | [], [], c => fun _ h => ⟨h, fun h => h.elim (fun h => absurd h (by decide)) id⟩
  | [], _ :: _, [] => fun _ h => by rw [cb_cn] at h; exact absurd h (by decide)
  | [], _ :: _, _ :: _ => fun _ _ => by rw [cb_nc]; exact ⟨by decide, fun _ => by decide⟩
  | _ :: _, [], _ => fun h _ => by rw [cb_cn] at h; exact absurd h (by decide)
  | _ :: _, _ :: _, [] => fun _ h => by rw [cb_cn] at h; exact absurd h (by decide)
  | x :: xs, y :: ys, z :: zs => by
    rw [cb_cons, cb_cons, cb_cons]
    by_cases h1 : x < y
    · by_cases h2 : y < z
      · rw [if_pos h1, if_pos h2, if_pos (UInt8.lt_trans h1 h2)]; exact fun _ _ => ⟨by decide, fun _ => by decide⟩
      · rw [if_pos h1, if_neg h2]
        by_cases h3 : z < y
        · rw [if_pos h3]; exact fun _ h => absurd h (by decide)
        · have := u8_tri h2 h3; subst this
          rw [if_neg h3, if_pos h1]; exact fun _ _ => ⟨by decide, fun _ => by decide⟩
    · rw [if_neg h1]
      by_cases h3 : y < x
      · rw [if_pos h3]; exact fun h => absurd h (by decide)
      · have := u8_tri h1 h3; subst this
        rw [if_neg h3]
        by_cases h2 : x < z
        · rw [if_pos h2, if_pos h2]; exact fun _ _ => ⟨by decide, fun _ => by decide⟩
        · rw [if_neg h2]
          by_cases h4 : z < x
          · rw [if_pos h4]; exact fun _ h => absurd h (by decide)
          · rw [if_neg h4, if_neg h2, if_neg h4]; exact cmp_trans xs ys zs
/-! orders -/
structure IsCmp {α : Type} (c : α → α → Int) : Prop where
  range : ∀ a b, c a b = -1 ∨ c a b = 0 ∨ c a b = 1
  neg : ∀ a b, c b a = - c a b
  trans : ∀ a b d, c a b ≤ 0 → c b d ≤ 0 → c a d ≤ 0 ∧ (c a b < 0 ∨ c b d < 0 → c a d < 0)
def icmp (a b : Int) : Int := if a < b then -1 else if a > b then 1 else 0
theorem icmp_is : IsCmp icmp := by
  refine ⟨fun a b => ?_, fun a b => ?_, fun a b d => ?_⟩
  · unfold icmp; split <;> (try split) <;> simp
  · unfold icmp; (repeat' split) <;> omega
  · unfold icmp; (repeat' split) <;> omega
theorem IsCmp.by {α β : Type} {c : β → β → Int} (h : IsCmp c) (f : α → β) : IsCmp (fun a b => c (f a) (f b)) := ⟨fun _ _ => h.range _ _, fun _ _ => h.neg _ _, fun _ _ _ => h.trans _ _ _⟩
theorem bytes_is : IsCmp Go.Lib.compareBytes := ⟨cmp_range, cmp_neg, cmp_trans⟩
def orC {α : Type} (c d : α → α → Int) (a b : α) : Int := if c a b ≠ 0 then c a b else d a b
theorem IsCmp.or {α : Type} {c d : α → α → Int} (h : IsCmp c) (k : IsCmp d) : IsCmp (orC c d) := by
  refine ⟨fun a b => ?_, fun a b => ?_, fun x y z => ?_⟩
  · unfold orC; split
    · exact h.range a b
    · exact k.range a b
  · unfold orC
    rw [h.neg a b, k.neg a b]
    split <;> split <;> omega
  · have t := h.trans x y z
    have t' := h.trans z y x
    have u := k.trans x y z
    have n1 := h.neg x y; have n2 := h.neg y z; have n3 := h.neg x z
    unfold orC
    (repeat' split) <;> omega
theorem IsCmp.refl {α : Type} {c : α → α → Int} (h : IsCmp c) (a : α) : c a a = 0 := by have := h.neg a a; omega
theorem clone_ok (l : List Int) (h : l.length ≤ 140737488355328) : bytes_Clone.f l = some l := if_pos h
theorem next_bad (r : S_cursor_rest) (n : Int) (h : r.bad = true ∨ n < 0 ∨ n > r.left.length) : cursor_rest_next.f r n = some ([], ⟨r.left, true⟩) := by
  unfold cursor_rest_next.f
  by_cases hb : r.bad = true
  · simp [hb]
  · by_cases h1 : n < 0
    · simp [hb, h1]
    · have h2 : (r.left.length : Int) < n := by rcases h with h | h | h <;> first | exact absurd h hb | exact absurd h h1 | exact h
      simp [hb, h1, h2]
theorem next_ok (r : S_cursor_rest) (n : Int) (hb : r.bad = false) (h0 : 0 ≤ n) (h1 : n ≤ r.left.length) : cursor_rest_next.f r n = some (r.left.take n.toNat, ⟨r.left.drop n.toNat, false⟩) := by
  unfold cursor_rest_next.f
  have e0 : ¬ n < 0 := by omega
  have e1 : ¬ (r.left.length : Int) < n := by omega
  simp [hb, e0, e1, h0, h1]
def numL : List Int → Int → Int
  | [], x => x
  | c :: l, x => numL l (IntKind.i64.wrap (BitVec.ofInt IntKind.i64.bits (IntKind.i64.wrap (x * 2 ^ (min (8 : Int).toNat IntKind.i64.bits))) ||| BitVec.ofInt IntKind.i64.bits (IntKind.i64.wrap c)).toNat)
theorem num_l0 (t : List Int × S_cursor_rest) (hl : t.1.length ≤ 140737488355328) : ∀ (m k i : Nat) (x : Int), m + i = t.1.length → m < k → cursor_Reader_Num.l0 t k x (i : Int) = some (numL (t.1.drop i) x)
  | 0, k + 1, i, x, h, _ => by
    unfold cursor_Reader_Num.l0
    rw [if_neg (by simp; omega), List.drop_of_length_le (by omega)]
    rfl
  | m + 1, k + 1, i, x, h, hk => by
    unfold cursor_Reader_Num.l0
    have hi : i < t.1.length := by omega
    have e : IntKind.i64.wrap ((i : Int) + 1) = ((i + 1 : Nat) : Int) := by rw [IntKind.wrap_i64]; omega
    rw [if_pos (by simpa using hi), if_pos (by omega), e, num_l0 t hl m k (i + 1) _ (by omega) (by omega), List.drop_eq_getElem_cons hi]
    have er : rd t.1 (i : Int) = t.1[i] := by simp [rd, List.getD, hi]
    rw [er]
    rfl
theorem num_bad (k : Nat) (r : S_cursor_Reader) (n : Int) (h : r.rest.bad = true ∨ n < 1 ∨ n > 4 ∨ n > r.rest.left.length) : cursor_Reader_Num.f (k + 1) r n = some (0, ⟨⟨r.rest.left, true⟩⟩) := by
  unfold cursor_Reader_Num.f
  have hl : cursor_Reader_Num.l0 ([], ⟨r.rest.left, true⟩) (k + 1) 0 0 = some 0 := by unfold cursor_Reader_Num.l0; simp
  by_cases hs : n < 1 ∨ n > 4
  · have : (if decide (n < 1) = true then true else decide (n > 4)) = true := by rcases hs with h | h <;> simp [h]
    rw [if_pos this, Option.bind_some, next_bad _ _ (by omega), Option.bind_some, hl]
    rfl
  · have h1 : ¬ n < 1 := fun e => hs (.inl e)
    have h2 : ¬ 4 < n := fun e => hs (.inr e)
    have : ¬ (if decide (n < 1) = true then true else decide (n > 4)) = true := by simp [h1, h2]
    rw [if_neg this, Option.bind_some, next_bad _ _ (by rcases h with h | h | h | h <;> first | exact .inl h | exact absurd h h1 | exact absurd h h2 | exact .inr (.inr h)), Option.bind_some, hl]
    rfl
theorem num_ok (k : Nat) (r : S_cursor_Reader) (n : Int) (hb : r.rest.bad = false) (h1 : 1 ≤ n) (h4 : n ≤ 4) (hn : n ≤ r.rest.left.length) :
    cursor_Reader_Num.f (k + 5) r n = some (numL (r.rest.left.take n.toNat) 0, ⟨⟨r.rest.left.drop n.toNat, false⟩⟩) := by
  unfold cursor_Reader_Num.f
  have e1 : ¬ n < 1 := by omega
  have e4 : ¬ 4 < n := by omega
  rw [if_neg (by simp [e1, e4]), Option.bind_some, next_ok _ _ hb (by omega) hn, Option.bind_some]
  have hl : (r.rest.left.take n.toNat).length ≤ 4 := by simp; omega
  have := num_l0 (r.rest.left.take n.toNat, ⟨r.rest.left.drop n.toNat, false⟩) (by show (r.rest.left.take n.toNat).length ≤ _; omega) (r.rest.left.take n.toNat).length (k + 5) 0 0 rfl (by omega)
  simp only [Int.ofNat_zero, Int.natCast_zero, List.drop_zero] at this
  rw [this]
  rfl
theorem left_f (r : S_cursor_rest) : cursor_rest_Left.f r = some (if r.bad = true then 0 else (r.left.length : Int)) := by
  unfold cursor_rest_Left.f
  split <;> rfl
theorem fdiv_pos (n : Int) (d : Nat) (hn : 0 ≤ n) : Int.fdiv n (2 ^ d) = n / (2 ^ d) := Int.fdiv_eq_ediv_of_nonneg _ (Int.le_of_lt (Int.pow_pos (by decide)))
theorem put_step (n : Int) (hn : 0 ≤ n) (k : Nat) (x : List Int) (i : Nat) (hi : i ≤ 32) (hx : x.length + 1 ≤ 140737488355328) :
    cursor_Put.l0 n (k + 1) x (i : Int) = cursor_Put.l0 n k (x ++ [(n / 2 ^ i) % 256]) ((i : Int) - 8) := by
  rw [cursor_Put.l0]
  have h0 : (0 : Int) ≤ (i : Int) := by omega
  have e : IntKind.i64.wrap ((i : Int) - 8) = (i : Int) - 8 := by rw [IntKind.wrap_i64]; omega
  have hm : min ((i : Int).toNat) IntKind.i64.bits = i := by
    show min i 64 = i
    omega
  rw [if_pos (by simp), if_pos h0, if_pos (by simp; omega), e, hm, fdiv_pos _ _ hn, IntKind.wrap_u8]
theorem put_end (n : Int) (k : Nat) (x : List Int) (i : Int) (hi : i < 0) : cursor_Put.l0 n (k + 1) x i = some x := by
  rw [cursor_Put.l0, if_neg (by simp; omega)]
def putL (n : Int) : Nat → List Int
  | 1 => [n % 256]
  | 2 => [n / 256 % 256, n % 256]
  | 3 => [n / 65536 % 256, n / 256 % 256, n % 256]
  | 4 => [n / 16777216 % 256, n / 65536 % 256, n / 256 % 256, n % 256]
  | _ => []
theorem put_bad1 (k : Nat) (b : List Int) (n s : Int) (h : s < 1 ∨ s > 4) : cursor_Put.f k b n s = some ([], 1) := by
  unfold cursor_Put.f
  have : (if decide (s < 1) = true then true else decide (s > 4)) = true := by simp; omega
  rw [if_pos this]
theorem put_bad5 (k : Nat) (b : List Int) (n s : Int) (h1 : 1 ≤ s) (h4 : s ≤ 4) (h : n < 0 ∨ n ≥ 2 ^ (8 * s.toNat)) : cursor_Put.f k b n s = some ([], 5) := by
  unfold cursor_Put.f
  have : ¬ (if decide (s < 1) = true then true else decide (s > 4)) = true := by simp; omega
  rw [if_neg this]
  have e : IntKind.i64.wrap ((8 : Int) * s) = 8 * s := by rw [IntKind.wrap_i64]; omega
  rw [e]
  by_cases hn : n < 0
  · simp [hn]
  · have hge : n ≥ 2 ^ (8 * s.toNat) := h.resolve_left hn
    have hm : min ((8 * s).toNat) IntKind.i64.bits = 8 * s.toNat := by show min _ 64 = _; omega
    have hne : (Int.fdiv n (2 ^ (8 * s.toNat)) != 0) = true := by
      rw [fdiv_pos _ _ (by omega)]
      have hp : (0 : Int) < 2 ^ (8 * s.toNat) := Int.pow_pos (by decide)
      have : 1 ≤ n / 2 ^ (8 * s.toNat) := (Int.le_ediv_iff_mul_le hp).2 (by omega)
      simp; omega
    rw [if_neg (by simpa using hn), if_pos (by omega), hm, hne]
    rfl
theorem put_ok (k : Nat) (b : List Int) (n : Int) (s : Nat) (hb : b.length ≤ 140737488351232) (h1 : 1 ≤ s) (h4 : s ≤ 4) (hn : 0 ≤ n) (hlt : n < 2 ^ (8 * s)) : cursor_Put.f (k + 5) b n (s : Int) = some (b ++ putL n s, 0) := by
  unfold cursor_Put.f
  have : ¬ (if decide ((s : Int) < 1) = true then true else decide ((s : Int) > 4)) = true := by simp; omega
  rw [if_neg this]
  have e : IntKind.i64.wrap ((8 : Int) * (s : Int)) = 8 * (s : Int) := by rw [IntKind.wrap_i64]; omega
  have e2 : IntKind.i64.wrap ((8 : Int) * IntKind.i64.wrap ((s : Int) - 1)) = 8 * ((s : Int) - 1) := by rw [IntKind.wrap_i64, IntKind.wrap_i64]; omega
  rw [e, e2]
  have hm : min ((8 * (s : Int)).toNat) IntKind.i64.bits = 8 * s := by show min _ 64 = _; omega
  have hz : (Int.fdiv n (2 ^ (8 * s)) != 0) = false := by
    rw [fdiv_pos _ _ hn, Int.ediv_eq_zero_of_lt hn hlt]; rfl
  rw [if_neg (by simpa using hn), if_pos (by omega), hm, hz, Option.bind_some, if_neg (by simp), clone_ok _ (by omega), Option.bind_some]
  rcases (show s = 1 ∨ s = 2 ∨ s = 3 ∨ s = 4 by omega) with rfl | rfl | rfl | rfl
  · have := put_step n hn (k + 4) b 0 (by omega) (by omega)
    rw [show (8 : Int) * ((1 : Nat) - 1) = ((0 : Nat) : Int) from rfl, this, put_end _ _ _ _ (by omega)]
    simp [putL]
  · have s1 := put_step n hn (k + 4) b 8 (by omega) (by omega)
    have s2 := put_step n hn (k + 3) (b ++ [n / 2 ^ 8 % 256]) 0 (by omega) (by simp; omega)
    rw [show (8 : Int) * ((2 : Nat) - 1) = ((8 : Nat) : Int) from rfl, s1, show ((8 : Nat) : Int) - 8 = ((0 : Nat) : Int) from rfl, s2, put_end _ _ _ _ (by omega)]
    simp [putL]
  · have s1 := put_step n hn (k + 4) b 16 (by omega) (by omega)
    have s2 := put_step n hn (k + 3) (b ++ [n / 2 ^ 16 % 256]) 8 (by omega) (by simp; omega)
    have s3 := put_step n hn (k + 2) (b ++ [n / 2 ^ 16 % 256] ++ [n / 2 ^ 8 % 256]) 0 (by omega) (by simp; omega)
    rw [show (8 : Int) * ((3 : Nat) - 1) = ((16 : Nat) : Int) from rfl, s1, show ((16 : Nat) : Int) - 8 = ((8 : Nat) : Int) from rfl, s2, show ((8 : Nat) : Int) - 8 = ((0 : Nat) : Int) from rfl, s3, put_end _ _ _ _ (by omega)]
    simp [putL]
  · have s1 := put_step n hn (k + 4) b 24 (by omega) (by omega)
    have s2 := put_step n hn (k + 3) (b ++ [n / 2 ^ 24 % 256]) 16 (by omega) (by simp; omega)
    have s3 := put_step n hn (k + 2) (b ++ [n / 2 ^ 24 % 256] ++ [n / 2 ^ 16 % 256]) 8 (by omega) (by simp; omega)
    have s4 := put_step n hn (k + 1) (b ++ [n / 2 ^ 24 % 256] ++ [n / 2 ^ 16 % 256] ++ [n / 2 ^ 8 % 256]) 0 (by omega) (by simp; omega)
    rw [show (8 : Int) * ((4 : Nat) - 1) = ((24 : Nat) : Int) from rfl, s1, show ((24 : Nat) : Int) - 8 = ((16 : Nat) : Int) from rfl, s2, show ((16 : Nat) : Int) - 8 = ((8 : Nat) : Int) from rfl, s3, show ((8 : Nat) : Int) - 8 = ((0 : Nat) : Int) from rfl, s4, put_end _ _ _ _ (by omega)]
    simp [putL]
theorem or_step (x c : Int) (hx : 0 ≤ x) (hx2 : x < 72057594037927936) (hc : 0 ≤ c) (hc2 : c ≤ 255) :
    IntKind.i64.wrap (BitVec.ofInt IntKind.i64.bits (IntKind.i64.wrap (x * 2 ^ (min (8 : Int).toNat IntKind.i64.bits))) ||| BitVec.ofInt IntKind.i64.bits (IntKind.i64.wrap c)).toNat = IntKind.i64.wrap (x * 256 + c) := by
  obtain ⟨a, rfl⟩ := Int.eq_ofNat_of_zero_le hx
  obtain ⟨d, rfl⟩ := Int.eq_ofNat_of_zero_le hc
  congr 1
  have e1 : (BitVec.ofInt IntKind.i64.bits (IntKind.i64.wrap ((a : Int) * 2 ^ (min (8 : Int).toNat IntKind.i64.bits)))).toNat = 2 ^ 8 * a := by
    have : ((a : Int) * 2 ^ (min (8 : Int).toNat IntKind.i64.bits)) = (a : Int) * 256 := rfl
    rw [this, IntKind.wrap_i64, BitVec.toNat_ofInt]
    show (_ % ((2 ^ 64 : Nat) : Int)).toNat = _
    omega
  have e2 : (BitVec.ofInt IntKind.i64.bits (IntKind.i64.wrap (d : Int))).toNat = d := by
    rw [IntKind.wrap_i64, BitVec.toNat_ofInt]
    show (_ % ((2 ^ 64 : Nat) : Int)).toNat = _
    omega
  rw [BitVec.toNat_or, e1, e2, ← Nat.two_pow_add_eq_or_of_lt (by omega : d < 2 ^ 8)]
  omega
theorem numL_cons (c : Int) (l : List Int) (x : Int) (hx : 0 ≤ x) (hx2 : x < 4294967296) (hc : 0 ≤ c) (hc2 : c ≤ 255) : numL (c :: l) x = numL l (x * 256 + c) := by
  rw [numL, or_step x c hx (by omega) hc hc2]
  congr 1
  rw [IntKind.wrap_i64]; omega
theorem num_put (n : Int) (s : Nat) (h1 : 1 ≤ s) (h4 : s ≤ 4) (hn : 0 ≤ n) (hlt : n < 2 ^ (8 * s)) : numL (putL n s) 0 = n := by
  rcases (show s = 1 ∨ s = 2 ∨ s = 3 ∨ s = 4 by omega) with rfl | rfl | rfl | rfl <;> simp only [putL]
  · have : n < 256 := hlt
    rw [numL_cons _ _ _ (by omega) (by omega) (by omega) (by omega), numL]; omega
  · have : n < 65536 := hlt
    rw [numL_cons _ _ _ (by omega) (by omega) (by omega) (by omega), numL_cons _ _ _ (by omega) (by omega) (by omega) (by omega), numL]; omega
  · have : n < 16777216 := hlt
    rw [numL_cons _ _ _ (by omega) (by omega) (by omega) (by omega), numL_cons _ _ _ (by omega) (by omega) (by omega) (by omega), numL_cons _ _ _ (by omega) (by omega) (by omega) (by omega), numL]; omega
  · have : n < 4294967296 := hlt
    rw [numL_cons _ _ _ (by omega) (by omega) (by omega) (by omega), numL_cons _ _ _ (by omega) (by omega) (by omega) (by omega), numL_cons _ _ _ (by omega) (by omega) (by omega) (by omega), numL_cons _ _ _ (by omega) (by omega) (by omega) (by omega), numL]; omega
theorem putL_length (n : Int) (s : Nat) (h1 : 1 ≤ s) (h4 : s ≤ 4) : (putL n s).length = s := by
  rcases (show s = 1 ∨ s = 2 ∨ s = 3 ∨ s = 4 by omega) with rfl | rfl | rfl | rfl <;> rfl
theorem put_num (l : List Int) (h1 : 1 ≤ l.length) (h4 : l.length ≤ 4) (hl : ∀ y ∈ l, 0 ≤ y ∧ y ≤ 255) : 0 ≤ numL l 0 ∧ numL l 0 < 2 ^ (8 * l.length) ∧ putL (numL l 0) l.length = l := by
  match l, h1, h4, hl with
  | [a], _, _, hl =>
    have ha := hl a (by simp)
    rw [numL_cons _ _ _ (by omega) (by omega) ha.1 ha.2, numL]
    simp only [putL, List.length_cons, List.length_nil]
    exact ⟨by omega, by omega, by congr 1; omega⟩
  | [a, b], _, _, hl =>
    have ha := hl a (by simp); have hb := hl b (by simp)
    rw [numL_cons _ _ _ (by omega) (by omega) ha.1 ha.2, numL_cons _ _ _ (by omega) (by omega) hb.1 hb.2, numL]
    simp only [putL, List.length_cons, List.length_nil]
    exact ⟨by omega, by omega, by congr 1; omega; congr 1; omega⟩
  | [a, b, c], _, _, hl =>
    have ha := hl a (by simp); have hb := hl b (by simp); have hc := hl c (by simp)
    rw [numL_cons _ _ _ (by omega) (by omega) ha.1 ha.2, numL_cons _ _ _ (by omega) (by omega) hb.1 hb.2, numL_cons _ _ _ (by omega) (by omega) hc.1 hc.2, numL]
    simp only [putL, List.length_cons, List.length_nil]
    exact ⟨by omega, by omega, by congr 1; omega; congr 1; omega; congr 1; omega⟩
  | [a, b, c, d], _, _, hl =>
    have ha := hl a (by simp); have hb := hl b (by simp); have hc := hl c (by simp); have hd := hl d (by simp)
    rw [numL_cons _ _ _ (by omega) (by omega) ha.1 ha.2, numL_cons _ _ _ (by omega) (by omega) hb.1 hb.2, numL_cons _ _ _ (by omega) (by omega) hc.1 hc.2, numL_cons _ _ _ (by omega) (by omega) hd.1 hd.2, numL]
    simp only [putL, List.length_cons, List.length_nil]
    exact ⟨by omega, by omega, by congr 1; omega; congr 1; omega; congr 1; omega; congr 1; omega⟩
theorem w64 (n : Int) (h : -9223372036854775808 ≤ n ∧ n ≤ 9223372036854775807) : IntKind.i64.wrap n = n := by rw [IntKind.wrap_i64]; omega
def isB (l : List Int) : Prop := ∀ y ∈ l, 0 ≤ y ∧ y ≤ 255
theorem okL_isB {l : List Int} (h : okL 1 (okI .u8) l) : isB l := fun y hy => by
  have := h.2 y hy
  have e1 : IntKind.u8.min = 0 := rfl
  have e2 : IntKind.u8.max = 255 := rfl
  unfold okI at this
  omega
theorem okA_isB {l : List Int} {n : Nat} (h : okA .u8 n l) : isB l := fun y hy => by
  have := h.2 y hy
  have e1 : IntKind.u8.min = 0 := rfl
  have e2 : IntKind.u8.max = 255 := rfl
  unfold okI at this
  omega
theorem okL_len {l : List Int} {ok : Int → Prop} (h : okL 1 ok l) : l.length ≤ 140737488351232 := by have := h.1; unfold reachBytes at this; omega
theorem isB.app {a b : List Int} (h : isB a) (h' : isB b) : isB (a ++ b) := fun y hy => (List.mem_append.1 hy).elim (h y) (h' y)
theorem b2s_inj : ∀ {a b : List Int}, isB a → isB b → b2s a = b2s b → a = b
  | [], [], _, _, _ => rfl
  | [], _ :: _, _, _, h => by simp [b2s] at h
  | _ :: _, [], _, _, h => by simp [b2s] at h
  | x :: a, y :: b, ha, hb, h => by
    simp only [b2s, List.map_cons, List.cons.injEq] at h
    have h1 := ha x (by simp); have h2 := hb y (by simp)
    have e := congrArg UInt8.toNat h.1
    rw [UInt8.toNat_ofNat', UInt8.toNat_ofNat'] at e
    rw [b2s_inj (fun z hz => ha z (by simp [hz])) (fun z hz => hb z (by simp [hz])) h.2, show x = y by omega]
theorem b2s_beq {a b : List Int} (ha : isB a) (hb : isB b) : (b2s a == b2s b) = (a == b) := by
  rw [Bool.eq_iff_iff]
  simp only [beq_iff_eq]
  exact ⟨b2s_inj ha hb, fun e => by rw [e]⟩
theorem rd_at (l : List Int) (i : Nat) (hi : i < l.length) : rd l (i : Int) = l[i] := by simp [rd, List.getD, hi]
theorem ar_at (l : List Int) (i : Nat) (hi : i < l.length) : ar l i = l[i] := by simp [ar, List.getD, hi]
theorem arL_self (l : List Int) : arL l.length l = l := by
  apply List.ext_getElem
  · simp [arL]
  · intro i h1 h2
    simp [arL, ar_at l i h2]
/-! route distinguishers -/
def z8 : List Int := [0, 0, 0, 0, 0, 0, 0, 0]
def hiS (kind : Int) : Nat := if kind = 0 then 2 else if kind = 1 ∨ kind = 2 then 4 else 0
def loS (kind : Int) : Nat := 6 - hiS kind
def rdL (kind h l : Int) : List Int := putL kind 2 ++ putL h (hiS kind) ++ putL l (loS kind)
def fits (kind h l : Int) : Bool := decide (0 ≤ h) && (decide (h < 2 ^ (8 * hiS kind)) && (decide (0 ≤ l) && decide (l < 2 ^ (8 * loS kind))))
def makeR (kind h l : Int) : List Int × Int := if hiS kind = 0 then (z8, 1) else if fits kind h l = true then (rdL kind h l, 0) else (z8, 5)
theorem hiS_or (kind : Int) : (kind = 0 ∧ hiS kind = 2) ∨ ((kind = 1 ∨ kind = 2) ∧ hiS kind = 4) ∨ (kind ≠ 0 ∧ kind ≠ 1 ∧ kind ≠ 2 ∧ hiS kind = 0) := by
  unfold hiS
  by_cases h0 : kind = 0
  · exact .inl ⟨h0, by rw [if_pos h0]⟩
  · by_cases h1 : kind = 1 ∨ kind = 2
    · exact .inr (.inl ⟨h1, by rw [if_neg h0, if_pos h1]⟩)
    · exact .inr (.inr ⟨h0, fun e => h1 (.inl e), fun e => h1 (.inr e), by rw [if_neg h0, if_neg h1]⟩)
theorem high_ok (kind : Int) : rd_highSize.f kind = some ((hiS kind : Int), decide (hiS kind ≠ 0)) := by
  rcases hiS_or kind with ⟨rfl, h⟩ | ⟨rfl | rfl, h⟩ | ⟨h0, h1, h2, h⟩
  · rfl
  · rfl
  · rfl
  · unfold rd_highSize.f
    rw [h]
    simp [h0, h1, h2]
theorem rdL_length (kind h l : Int) (hk : hiS kind ≠ 0) : (rdL kind h l).length = 8 := by
  unfold rdL loS
  rcases hiS_or kind with ⟨rfl, e⟩ | ⟨_, e⟩ | ⟨_, _, _, e⟩
  · rw [e]; rfl
  · rw [e]; rfl
  · exact absurd e hk
theorem arC8 (b : List Int) (h : b.length = 8) : arC 8 (List.replicate 8 (0 : Int)) b = b := by
  unfold arC
  rw [List.take_of_length_le (by omega), List.drop_of_length_le (by rw [arL_length]; omega), List.append_nil]
theorem put_any (k : Nat) (b : List Int) (n : Int) (s : Nat) (hb : b.length ≤ 140737488351232) (h1 : 1 ≤ s) (h4 : s ≤ 4) : cursor_Put.f (k + 5) b n (s : Int) = some (if decide (0 ≤ n) && decide (n < 2 ^ (8 * s)) then (b ++ putL n s, 0) else ([], 5)) := by
  by_cases h : 0 ≤ n ∧ n < 2 ^ (8 * s)
  · rw [put_ok k b n s hb h1 h4 h.1 h.2, if_pos (by simp [h.1, h.2])]
  · rw [put_bad5 (k + 5) b n s (by omega) (by omega) (by rw [Int.toNat_natCast]; omega), if_neg (by simp; omega)]
theorem make_ok (k : Nat) (kind h l : Int) : rd_Make.f (k + 5) kind h l = some (makeR kind h l) := by
  unfold rd_Make.f makeR
  rw [high_ok, Option.bind_some]
  by_cases hk : hiS kind = 0
  · rw [if_pos hk, hk]; rfl
  · rw [if_neg hk]
    have hs : 1 ≤ hiS kind ∧ hiS kind ≤ 4 ∧ 1 ≤ loS kind ∧ loS kind ≤ 4 ∧ 0 ≤ kind ∧ kind < 65536 ∧ (6 : Int) - hiS kind = loS kind := by
      unfold loS
      rcases hiS_or kind with ⟨rfl, e⟩ | ⟨rfl | rfl, e⟩ | ⟨_, _, _, e⟩ <;> first | exact absurd e hk | (rw [e]; decide)
    have p1 := put_any k [] kind 2 (by simp) (by decide) (by decide)
    rw [if_pos (by simp; omega)] at p1
    simp only [hk, ne_eq, not_false_eq_true, decide_true, Bool.not_true, Bool.false_eq_true, if_false]
    rw [show (2 : Int) = ((2 : Nat) : Int) from rfl, p1, Option.bind_some, put_any k _ h (hiS kind) (by simp [putL]) hs.1 hs.2.1, Option.bind_some]
    by_cases h1 : (decide (0 ≤ h) && decide (h < 2 ^ (8 * hiS kind))) = true
    · rw [if_pos h1, w64 _ (by omega), hs.2.2.2.2.2.2]
      simp only [beq_self_eq_true, if_true]
      rw [put_any k _ l (loS kind) (by rw [List.length_append, putL_length h _ hs.1 hs.2.1]; simp [putL]; omega) hs.2.2.1 hs.2.2.2.1, Option.bind_some, Option.bind_some]
      by_cases h2 : (decide (0 ≤ l) && decide (l < 2 ^ (8 * loS kind))) = true
      · have hf : fits kind h l = true := by unfold fits; rw [← Bool.and_assoc, h1, h2]; rfl
        rw [if_pos h2, hf]
        simp only [bne_self_eq_false, Bool.false_eq_true, if_false, if_true, List.nil_append]
        rw [arC8 _ (by have := rdL_length kind h l hk; unfold rdL at this; exact this)]
        rfl
      · have hf : fits kind h l = false := by unfold fits; rw [← Bool.and_assoc, h1]; simpa using h2
        rw [if_neg h2, hf]
        rfl
    · have hf : fits kind h l = false := by
        have h1' := Bool.eq_false_iff.2 h1
        unfold fits; rw [← Bool.and_assoc, h1']; rfl
      rw [if_neg h1, hf]
      rfl
theorem eqA8 {x y : List Int} (hx : x.length = 8) (hy : y.length = 8) : eqA 8 x y = (x == y) := by
  rw [Bool.eq_iff_iff, eqA_iff]
  simp only [beq_iff_eq]
  refine ⟨fun h => ?_, fun e => by subst e; exact fun _ _ => rfl⟩
  apply List.ext_getElem
  · omega
  · intro i h1 h2
    have := h i (by omega)
    rwa [ar_at _ _ h1, ar_at _ _ h2] at this
theorem arL8 {x : List Int} (h : x.length = 8) : arL 8 x = x := by have := arL_self x; rwa [h] at this

theorem hs_of {kind : Int} (hk : hiS kind ≠ 0) : (hiS kind = 2 ∨ hiS kind = 4) ∧ (loS kind = 2 ∨ loS kind = 4) ∧ 0 ≤ kind ∧ kind < 65536 := by
  unfold loS
  rcases hiS_or kind with ⟨rfl, e⟩ | ⟨rfl | rfl, e⟩ | ⟨_, _, _, e⟩ <;> first | exact absurd e hk | (rw [e]; decide)
def partsR (d : List Int) : Int × Int × Int × Bool :=
  if hiS (numL (d.take 2) 0) = 0 then (0, 0, 0, false)
  else (numL (d.take 2) 0, numL ((d.drop 2).take (hiS (numL (d.take 2) 0))) 0, numL (d.drop (2 + hiS (numL (d.take 2) 0))) 0, true)
theorem parts_ok (k : Nat) (d : List Int) (hd : d.length = 8) : rd_Parts.f (k + 20) d = some (partsR d) := by
  unfold rd_Parts.f partsR cursor_Open.f
  rw [arL8 hd, clone_ok d (by omega), Option.bind_some, Option.bind_some]
  have n1 := num_ok (k + 15) ⟨⟨d, false⟩⟩ 2 rfl (by decide) (by decide) (by simp; omega)
  simp only [show k + 15 + 5 = k + 20 from rfl, show (Int.toNat (2 : Int)) = 2 from rfl] at n1
  simp only [n1, Option.bind_some, high_ok]
  generalize hkd : numL (d.take 2) 0 = kind
  by_cases hk : hiS kind = 0
  · rw [if_pos hk]; simp [hk]
  · have hs := hs_of hk
    have e2 : loS kind = 6 - hiS kind := rfl
    have n2 := num_ok (k + 15) ⟨⟨d.drop 2, false⟩⟩ (hiS kind) rfl (by omega) (by omega) (by simp; omega)
    have n3 := num_ok (k + 15) ⟨⟨(d.drop 2).drop (hiS kind), false⟩⟩ (loS kind) rfl (by omega) (by omega) (by simp; omega)
    have ln : (((d.drop 2).drop (hiS kind)).length : Int) = (loS kind : Int) := by simp; omega
    simp only [show k + 15 + 5 = k + 20 from rfl, Int.toNat_natCast] at n2 n3
    rw [if_neg hk]
    simp only [hk, ne_eq, not_false_eq_true, decide_true, Bool.not_true, Bool.false_eq_true, if_false, n2, Option.bind_some, left_f, ln, n3]
    have e3 : ((d.drop 2).drop (hiS kind)).take (loS kind) = d.drop (2 + hiS kind) := by
      rw [List.drop_drop, List.take_of_length_le (by simp; omega)]
    rw [e3]
/-! trimming zeros -/
theorem tr_nil (k : Nat) : bytes_trimRightByte.l0 0 (k + 1) [] = some [] := by unfold bytes_trimRightByte.l0; simp
theorem tr_snoc (k : Nat) (y : List Int) (c : Int) (h : y.length ≤ 100) : bytes_trimRightByte.l0 0 (k + 1) (y ++ [c]) = if c = 0 then bytes_trimRightByte.l0 0 k y else some (y ++ [c]) := by
  rw [bytes_trimRightByte.l0]
  have hl : (y ++ [c]).length = y.length + 1 := by simp
  have e : IntKind.i64.wrap (((y ++ [c]).length : Int) - 1) = (y.length : Int) := by rw [hl, IntKind.wrap_i64]; omega
  have er : rd (y ++ [c]) (y.length : Int) = c := by rw [rd_at _ _ (by simp)]; simp
  rw [e, er, if_pos (by simp <;> omega), if_pos (by rw [hl]; omega), Option.bind_some]
  by_cases hc : c = 0
  · rw [if_pos (by simpa using hc), if_pos (by rw [hl]; simp <;> omega), if_pos hc]
    simp
  · rw [if_neg (by simpa using hc), if_neg hc]
theorem tr_ok : ∀ (n k : Nat) (x : List Int), x.length = n → n < k → n ≤ 100 → ∃ r, bytes_trimRightByte.l0 0 k x = some r ∧ r.length ≤ x.length ∧ r.all (· == 0) = x.all (· == 0)
  | 0, k, x, h, hk, _ => by
    obtain ⟨k, rfl⟩ : ∃ k', k = k' + 1 := ⟨k - 1, by omega⟩
    obtain rfl := List.eq_nil_of_length_eq_zero h
    exact ⟨[], tr_nil k, Nat.le_refl _, rfl⟩
  | n + 1, k, x, h, hk, hn => by
    obtain ⟨k, rfl⟩ : ∃ k', k = k' + 1 := ⟨k - 1, by omega⟩
    have hne : x ≠ [] := by intro e; subst e; simp at h
    have hx : x = x.dropLast ++ [x.getLast hne] := (List.dropLast_concat_getLast hne).symm
    have hd : x.dropLast.length = n := by simp [h]
    generalize x.dropLast = y at hx hd
    generalize x.getLast hne = c at hx
    subst hx
    rw [tr_snoc k y c (by omega)]
    by_cases hc : c = 0
    · obtain ⟨r, h1, h2, h3⟩ := tr_ok n k y hd (by omega) (by omega)
      exact ⟨r, by rw [if_pos hc]; exact h1, by simp; omega, by rw [h3]; simp [hc]⟩
    · exact ⟨_, if_neg hc, Nat.le_refl _, rfl⟩
theorem tl_nil (k : Nat) : bytes_trimLeftByte.l0 0 (k + 1) [] = some [] := by unfold bytes_trimLeftByte.l0; simp
theorem tl_cons (k : Nat) (y : List Int) (c : Int) : bytes_trimLeftByte.l0 0 (k + 1) (c :: y) = if c = 0 then bytes_trimLeftByte.l0 0 k y else some (c :: y) := by
  rw [bytes_trimLeftByte.l0]
  have er : rd (c :: y) 0 = c := rfl
  rw [er, if_pos (by simp <;> omega), if_pos (by simp <;> omega), Option.bind_some]
  by_cases hc : c = 0
  · rw [if_pos (by simpa using hc), if_pos (by simp <;> omega), if_pos hc]
    simp
  · rw [if_neg (by simpa using hc), if_neg hc]
theorem tl_ok : ∀ (x : List Int) (k : Nat), x.length < k → ∃ r, bytes_trimLeftByte.l0 0 k x = some r ∧ (((r.length : Int) == 0) = x.all (· == 0))
  | [], k, hk => by
    obtain ⟨k, rfl⟩ : ∃ k', k = k' + 1 := ⟨k - 1, by omega⟩
    exact ⟨[], tl_nil k, rfl⟩
  | c :: y, k, hk => by
    obtain ⟨k, rfl⟩ : ∃ k', k = k' + 1 := ⟨k - 1, by omega⟩
    rw [tl_cons]
    by_cases hc : c = 0
    · obtain ⟨r, h1, h2⟩ := tl_ok y k (by simp at hk; omega)
      exact ⟨r, by rw [if_pos hc]; exact h1, by rw [h2]; simp [hc]⟩
    · refine ⟨_, if_neg hc, ?_⟩
      have : (c == 0) = false := by simpa using hc
      simp only [List.all_cons, this, Bool.false_and]
      simp
      omega
theorem trim_ok (k : Nat) (x : List Int) (hx : x.length ≤ 16) : ∃ r, bytes_Trim.f (k + 20) x [0] = some r ∧ (((r.length : Int) == 0) = x.all (· == 0)) := by
  by_cases h0 : x.length = 0
  · obtain rfl := List.eq_nil_of_length_eq_zero h0
    exact ⟨[], rfl, rfl⟩
  · obtain ⟨r, h1, h2, h3⟩ := tr_ok x.length (k + 20) x rfl (by omega) (by omega)
    obtain ⟨r', h4, h5⟩ := tl_ok r (k + 20) (by omega)
    have e : bytes_Trim.f (k + 20) x [0] = (bytes_trimRightByte.f (k + 20) x 0).bind fun t21 => (bytes_trimLeftByte.f (k + 20) t21 0).bind fun t24 => some t24 := by
      unfold bytes_Trim.f
      have hs : (((bstr ([0] : List UInt8)).size : Int) == (1 : Int)) = true := rfl
      have ez : ((([0] : List UInt8).getD (Int.toNat (0 : Int)) 0).toNat : Int) = 0 := rfl
      rw [if_neg (by simpa using h0), if_neg (by rw [bstr_toList, bstr_toList]; decide), if_pos hs, ez, if_pos (by decide), Option.bind_some, if_pos (by decide), if_pos (by decide), if_pos (by decide)]
    rw [e]
    unfold bytes_trimRightByte.f bytes_trimLeftByte.f
    rw [h1, Option.bind_some, Option.bind_some, h4, Option.bind_some]
    by_cases hr : r'.length = 0
    · obtain rfl := List.eq_nil_of_length_eq_zero hr
      exact ⟨[], rfl, by rw [← h3, ← h5]⟩
    · rw [if_neg (by simpa using hr)]
      exact ⟨r', rfl, by rw [h5, h3]⟩
/-! addresses -/
def isSz (n : Int) : Bool := n == 0 || n == 4 || n == 16
def rightB (a : S_api_Addr) : Bool := isSz a.Size && ((arL 16 a.B).drop a.Size.toNat).all (· == 0)
theorem isSz_or {n : Int} (h : isSz n = true) : n = 0 ∨ n = 4 ∨ n = 16 := by
  unfold isSz at h
  simp only [Bool.or_eq_true, beq_iff_eq] at h
  omega
theorem right_go (k : Nat) (a : S_api_Addr) (h : a.Size = 0 ∨ a.Size = 4 ∨ a.Size = 16) : addr_Right.f (k + 20) a = some (((arL 16 a.B).drop a.Size.toNat).all (· == 0)) := by
  have h16 : (arL 16 a.B).length = 16 := arL_length _ _
  have ht : (arL 16 a.B).take (Int.toNat 16) = arL 16 a.B := by rw [List.take_of_length_le]; rw [h16]; exact Nat.le_refl _
  obtain ⟨r, h1, h2⟩ := trim_ok k ((arL 16 a.B).drop a.Size.toNat) (by rw [List.length_drop, h16]; omega)
  have hc : (if (a.Size == (0 : Int)) = true then some (a.Size == (0 : Int) : Bool) else (if (a.Size == (4 : Int)) = true then some (a.Size == (4 : Int) : Bool) else some (a.Size == (16 : Int) : Bool))) = some true := by
    rcases h with h | h | h <;> simp [h]
  unfold addr_Right.f
  rw [ht, hc, Option.bind_some, if_pos rfl, if_pos (by omega), h1, Option.bind_some, h2]
theorem right_ok (k : Nat) (a : S_api_Addr) : addr_Right.f (k + 20) a = some (rightB a) := by
  by_cases h : a.Size = 0 ∨ a.Size = 4 ∨ a.Size = 16
  · rw [right_go k a h]
    have : isSz a.Size = true := by unfold isSz; simp; omega
    unfold rightB
    rw [this, Bool.true_and]
  · have h0 : ¬ a.Size = 0 := by omega
    have h4 : ¬ a.Size = 4 := by omega
    have h16 : ¬ a.Size = 16 := by omega
    unfold addr_Right.f rightB isSz
    simp [h0, h4, h16]
def zeros : List Int := List.replicate 16 0
theorem of_ok (b : List Int) : addr_Of.f b = some (if isSz b.length = true then (⟨b.length, arC 16 zeros b⟩, 0) else (⟨0, zeros⟩, 1)) := by
  have hc : ∀ n : Int, (if (n == (0 : Int)) = true then some (n == (0 : Int) : Bool) else (if (n == (4 : Int)) = true then some (n == (4 : Int) : Bool) else some (n == (16 : Int) : Bool))) = some (isSz n) := by
    intro n
    unfold isSz
    cases h : (n == 0) <;> cases h' : (n == 4) <;> simp
  unfold addr_Of.f
  rw [hc, Option.bind_some]
  cases isSz (b.length : Int) <;> rfl
def rootL (a : S_api_Addr) : List Int := (arL 16 a.B).take a.Size.toNat
theorem addrbytes_ok (k : Nat) (a : S_api_Addr) (h : rightB a = true) : addr_Bytes.f (k + 20) a = some (rootL a) := by
  unfold addr_Bytes.f
  have hs : a.Size = 0 ∨ a.Size = 4 ∨ a.Size = 16 := isSz_or (by unfold rightB at h; simp only [Bool.and_eq_true] at h; exact h.1)
  rw [right_ok, h, Option.bind_some, if_neg (by simp), if_pos (by omega), clone_ok _ (by simp [arL_length]; omega), Option.bind_some]
  rfl
theorem rootL_length (a : S_api_Addr) (h : rightB a = true) : ((rootL a).length : Int) = a.Size := by
  have hs : a.Size = 0 ∨ a.Size = 4 ∨ a.Size = 16 := isSz_or (by unfold rightB at h; simp only [Bool.and_eq_true] at h; exact h.1)
  unfold rootL
  rw [List.length_take, arL_length]
  omega
theorem root_back (a : S_api_Addr) (h : rightB a = true) (hl : a.B.length = 16) : (⟨((rootL a).length : Int), arC 16 zeros (rootL a)⟩ : S_api_Addr) = a := by
  have hs : a.Size = 0 ∨ a.Size = 4 ∨ a.Size = 16 := isSz_or (by unfold rightB at h; simp only [Bool.and_eq_true] at h; exact h.1)
  have hz : ((arL 16 a.B).drop a.Size.toNat).all (· == 0) = true := by unfold rightB at h; simp only [Bool.and_eq_true] at h; exact h.2
  have hB : arL 16 a.B = a.B := by rw [← hl]; exact arL_self _
  rw [hB] at hz
  have hr := rootL_length a h
  obtain ⟨S, B⟩ := a
  simp only [S_api_Addr.mk.injEq] at *
  refine ⟨hr, ?_⟩
  apply List.ext_getElem
  · rw [arC_length, hl]
  · intro i h1 h2
    have hi : i < 16 := by rw [arC_length] at h1; exact h1
    rw [← ar_at _ i h1, ar_arC _ _ _ _ hi]
    have hrl : (rootL ⟨S, B⟩).length = S.toNat := by omega
    by_cases hlt : i < S.toNat
    · rw [if_pos (by omega)]
      have : rootL ⟨S, B⟩ = B.take S.toNat := by unfold rootL; simp only; rw [hB]
      rw [this, ar_at _ _ (by simp <;> omega)]
      simp
    · rw [if_neg (by omega)]
      have hm : B[i] ∈ B.drop S.toNat := by
        have e : (B.drop S.toNat)[i - S.toNat]? = some B[i] := by rw [List.getElem?_drop, show S.toNat + (i - S.toNat) = i by omega, List.getElem?_eq_getElem h2]
        exact List.mem_of_getElem? e
      have hz' := List.all_eq_true.1 hz B[i] hm
      have : B[i] = 0 := by simpa using hz'
      rw [this]
      unfold zeros ar
      rw [List.getD_eq_getElem?_getD, List.getElem?_replicate, if_pos hi]
      rfl
theorem rootL_isB (a : S_api_Addr) (h : isB a.B) (hl : a.B.length = 16) : isB (rootL a) := by
  have hB : arL 16 a.B = a.B := by rw [← hl]; exact arL_self _
  intro y hy
  unfold rootL at hy
  rw [hB] at hy
  exact h y (List.mem_of_mem_take hy)
/-! tunnels -/
theorem le8_iff (x y : List Int) : le8 x y = true ↔ b2s (arL 8 x) ≤ b2s (arL 8 y) := by
  simp only [le8, cmp8, Bool.not_eq_true', decide_eq_false_iff_not, sx_lt, List.not_lt]
/-- there is one row in order -/
theorem ms_eq {l m : List (List Int)} (hv : ∀ x ∈ l, ok8b x = true) (hp : m.Perm l) (hs : m.Pairwise (fun x y => le8 x y = true)) : l.mergeSort le8 = m := by
  refine List.Perm.eq_of_pairwise (le := fun x y => le8 x y = true) ?_ ?_ hs ((List.mergeSort_perm l le8).trans hp.symm)
  · intro a b ha hb h1 h2
    rw [le8_iff] at h1 h2
    exact ok8_inj (hv a ((List.mergeSort_perm l le8).mem_iff.1 ha)) (hv b (hp.mem_iff.1 hb)) (List.le_antisymm h1 h2)
  · refine List.pairwise_mergeSort ?_ ?_ l
    · intro a b c h1 h2
      rw [le8_iff] at *
      exact List.le_trans h1 h2
    · intro a b
      rw [Bool.or_eq_true, le8_iff, le8_iff]
      exact List.le_total _ _
def smA : List Int := [0, 2, 253, 232, 0, 0, 0, 77]
def smB : List Int := [1, 11, 10, 0, 0, 1, 0, 3]
theorem small_set : community_Set.f [smB, smA, smB] = some [smA, smB] := by
  have h : [smB, smA, smB].mergeSort le8 = [smA, smB, smB] := ms_eq (by decide) (by decide) (by decide)
  unfold community_Set.f
  rw [if_pos (by decide)]
  unfold setE
  rw [h]
  rfl
theorem small04 (k : Nat) : vinerylaw04_small.f (k + 60) = some true := by
  have hT : community_Target.f (k + 60) 0 65000 77 = some (smA, 0) := by kernel_rfl
  have hI : community_Import.f (k + 60) ⟨4, [10, 0, 0, 1, 0, 0, 0, 0, 0, 0, 0, 0, 0, 0, 0, 0]⟩ 3 = some (smB, 0) := by kernel_rfl
  have hC : community_Source.f (k + 60) 65000 = some ([2, 9, 0, 0, 253, 232, 0, 0], 0) := by kernel_rfl
  unfold vinerylaw04_small.f
  rw [hT, Option.bind_some, hI, Option.bind_some, hC, Option.bind_some]
  show (community_Set.f [smB, smA, smB]).bind _ = _
  rw [small_set, Option.bind_some]
  kernel_rfl
def z8c : List Int := [0, 0, 0, 0, 0, 0, 0, 0]
theorem comm_of6 (a b : Int) (r : List Int) (hr : r.length = 6) : community_of.f a b r = some (a :: b :: r) := by
  match r, hr with
  | [_, _, _, _, _, _], _ => rfl
theorem comm_of4 (a b : Int) (r : List Int) (hr : r.length = 4) : community_of.f a b r = some (a :: b :: (r ++ [0, 0])) := by
  match r, hr with
  | [_, _, _, _], _ => rfl
def targR (kind h l : Int) : List Int × Int := if (makeR kind h l).2 = 0 then (IntKind.u8.wrap kind :: 2 :: (makeR kind h l).1.drop 2, 0) else (z8c, (makeR kind h l).2)
def impR (a : S_api_Addr) (n : Int) : List Int × Int := if rightB a = true ∧ a.Size = 4 then (if 0 ≤ n ∧ n < 65536 then (1 :: 11 :: (rootL a ++ putL n 2), 0) else (z8c, 5)) else (z8c, 1)
def srcR (n : Int) : List Int × Int := if 0 ≤ n ∧ n < 4294967296 then (2 :: 9 :: (putL n 4 ++ [0, 0]), 0) else (z8c, 5)
theorem makeR_len (kind h l : Int) : (makeR kind h l).1.length = 8 := by
  unfold makeR
  rcases hiS_or kind with ⟨_, e⟩ | ⟨_, e⟩ | ⟨_, _, _, e⟩
  · split
    · rfl
    · split
      · unfold rdL loS
        rw [e]
        simp [putL]
      · rfl
  · split
    · rfl
    · split
      · unfold rdL loS
        rw [e]
        simp [putL]
      · rfl
  · rw [if_pos e]; rfl
theorem targ_ok (k : Nat) (kind h l : Int) : community_Target.f (k + 20) kind h l = some (targR kind h l) := by
  unfold community_Target.f targR
  rw [make_ok (k + 15), Option.bind_some]
  have hl := makeR_len kind h l
  generalize makeR kind h l = m at hl ⊢
  by_cases h0 : m.2 = 0
  · rw [if_neg (by simp [h0]), if_pos (by decide), arL8 hl, comm_of6 _ _ _ (by simp; omega), Option.bind_some, if_pos h0]
    rw [show Int.toNat (8 : Int) = 8 from rfl, ← hl, List.take_length]; rfl
  · rw [if_pos (by simp [h0]), if_neg h0]; rfl
theorem no4 (a : S_api_Addr) : (if (!rightB a) = true then some (true : Bool) else some (a.Size != (4 : Int) : Bool)) = some (!(rightB a && a.Size == 4)) := by
  cases rightB a <;> rfl
theorem imp_ok (k : Nat) (a : S_api_Addr) (n : Int) : community_Import.f (k + 20) a n = some (impR a n) := by
  unfold community_Import.f impR
  rw [right_ok, Option.bind_some, no4, Option.bind_some]
  by_cases hr : rightB a = true ∧ a.Size = 4
  · have hl := rootL_length a hr.1
    have e : (!(rightB a && a.Size == 4)) = false := by simp [hr.1, hr.2]
    rw [e, if_neg (by decide), addrbytes_ok k a hr.1, Option.bind_some, show (2 : Int) = ((2 : Nat) : Int) from rfl, put_any (k + 15) _ _ 2 (by omega) (by omega) (by omega), Option.bind_some, if_pos hr]
    by_cases hn : 0 ≤ n ∧ n < 65536
    · have e2 : (decide (0 ≤ n) && decide (n < 2 ^ (8 * 2))) = true := by simp; omega
      rw [e2, if_pos rfl, if_neg (by simp), comm_of6 _ _ _ (by simp [putL]; omega), Option.bind_some, if_pos hn]
    · have e2 : (decide (0 ≤ n) && decide (n < 2 ^ (8 * 2))) = false := by simp; omega
      rw [e2, if_neg (by decide : ¬ (false = true)), if_neg hn]; rfl
  · have e : (!(rightB a && a.Size == 4)) = true := by
      rw [Bool.not_eq_true', Bool.and_eq_false_iff]
      by_cases h1 : rightB a = true
      · exact .inr (by simpa using fun h => hr ⟨h1, h⟩)
      · exact .inl (by simpa using h1)
    rw [e, if_pos rfl, if_neg hr]; rfl
theorem src_ok (k : Nat) (n : Int) : community_Source.f (k + 20) n = some (srcR n) := by
  unfold community_Source.f srcR
  rw [show (4 : Int) = ((4 : Nat) : Int) from rfl, put_any (k + 15) _ _ 4 (by simp) (by omega) (by omega), Option.bind_some]
  by_cases hn : 0 ≤ n ∧ n < 4294967296
  · have e2 : (decide (0 ≤ n) && decide (n < 2 ^ (8 * 4))) = true := by simp; omega
    rw [e2, if_pos rfl, if_neg (by simp), comm_of4 _ _ _ (by simp [putL]), Option.bind_some, if_pos hn]; rfl
  · have e2 : (decide (0 ≤ n) && decide (n < 2 ^ (8 * 4))) = false := by simp; omega
    rw [e2, if_neg (by decide : ¬ (false = true)), if_neg hn]; rfl
theorem es8 (z : List Int) : eqA 8 z z = true := (eqA_iff _ _ _).2 fun _ _ => rfl
def kindR (e : List Int) : Int := if ar e 1 = 2 ∧ ar e 0 ≤ 2 then 1 else if ar e 1 = 11 ∧ ar e 0 = 1 then 2 else if ar e 1 = 9 ∧ ar e 0 = 2 ∧ (IntKind.u8.wrap (BitVec.ofInt IntKind.u8.bits (ar e 6) ||| BitVec.ofInt IntKind.u8.bits (ar e 7)).toNat) = 0 then 3 else 0
theorem and3 (p q : Prop) [Decidable p] [Decidable q] (x y : Bool) (hx : x = true ↔ p) (hy : y = true ↔ q) : (if x = true then some (y : Bool) else some false) = some (decide (p ∧ q)) := by
  by_cases hp : p <;> by_cases hq : q <;> simp_all
theorem kind_ok (e : List Int) : community_Kind.f e = some (kindR e) := by
  unfold community_Kind.f kindR
  have h1 := and3 (ar e 1 = 2) (ar e 0 ≤ 2) (ar e 1 == 2) (decide (ar e 0 ≤ 2)) (by simp) (by simp)
  have h2 := and3 (ar e 1 = 11) (ar e 0 = 1) (ar e 1 == 11) (ar e 0 == 1) (by simp) (by simp)
  have h3 : (if (ar e 1 == (9 : Int)) = true then (if (ar e 0 == (2 : Int)) = true then some ((IntKind.u8.wrap (BitVec.ofInt IntKind.u8.bits (ar e 6) ||| BitVec.ofInt IntKind.u8.bits (ar e 7)).toNat) == (0 : Int) : Bool) else some (false : Bool)) else some (false : Bool)) = some (decide (ar e 1 = 9 ∧ ar e 0 = 2 ∧ (IntKind.u8.wrap (BitVec.ofInt IntKind.u8.bits (ar e 6) ||| BitVec.ofInt IntKind.u8.bits (ar e 7)).toNat) = 0)) := by
    generalize (IntKind.u8.wrap (BitVec.ofInt IntKind.u8.bits (ar e 6) ||| BitVec.ofInt IntKind.u8.bits (ar e 7)).toNat : Int) = q
    by_cases p1 : ar e 1 = 9 <;> by_cases p2 : ar e 0 = 2 <;> by_cases p3 : q = 0 <;> simp_all
  rw [h1, Option.bind_some]
  by_cases c1 : ar e 1 = 2 ∧ ar e 0 ≤ 2
  · rw [if_pos (decide_eq_true c1), if_pos c1]
  · rw [if_neg (by simpa using c1), if_neg c1, h2, Option.bind_some]
    by_cases c2 : ar e 1 = 11 ∧ ar e 0 = 1
    · rw [if_pos (decide_eq_true c2), if_pos c2]
    · rw [if_neg (by simpa using c2), if_neg c2, h3, Option.bind_some]
      split
      · rename_i c3; rw [if_pos (of_decide_eq_true c3)]
      · rename_i c3; rw [if_neg (by simpa using c3)]
theorem rdx {α : Type} [Inhabited α] (l : List α) (i : Nat) (hi : i < l.length) : rd l (i : Int) = l[i] := by simp [rd, List.getD, hi]
def yes (r : Int ⊕ Unit) : Bool := match r with | .inl j => decide (j ≥ 0) | .inr _ => false
theorem ind_l0 (l : List (List Int)) (v : List Int) (hl : l.length ≤ 140737488351232) : ∀ (m k i : Nat), i + m = l.length → m < k → ∃ r, slices_Index_Ext.l0 l v k (i : Int) = some r ∧ yes r = (l.drop i).any (eqA 8 v)
  | 0, k + 1, i, h, _ => ⟨.inr (), by rw [slices_Index_Ext.l0, if_neg (by simp; omega)], by rw [List.drop_eq_nil_of_le (by omega)]; rfl⟩
  | m + 1, k + 1, i, h, hk => by
    have hi : i < l.length := by omega
    rw [slices_Index_Ext.l0, if_pos (by simp; omega), if_pos (by omega), rdx l i hi, List.drop_eq_getElem_cons hi, List.any_cons]
    by_cases he : eqA 8 v l[i] = true
    · exact ⟨.inl i, by rw [if_pos he], by rw [he]; simp [yes]⟩
    · obtain ⟨r, h1, h2⟩ := ind_l0 l v hl m k (i + 1) (by omega) (by omega)
      have e : IntKind.i64.wrap ((i : Int) + 1) = ((i + 1 : Nat) : Int) := by rw [IntKind.wrap_i64]; omega
      exact ⟨r, by rw [if_neg he, e, h1], by rw [h2]; simp [he]⟩
theorem cont_ok (l : List (List Int)) (v : List Int) (k : Nat) (hl : l.length ≤ 140737488351232) (hk : l.length < k) : slices_Contains_Ext.f k l v = some (l.any (eqA 8 v)) := by
  obtain ⟨r, h1, h2⟩ := ind_l0 l v hl l.length k 0 (by omega) hk
  unfold slices_Contains_Ext.f slices_Index_Ext.f
  rw [show ((0 : Int)) = ((0 : Nat) : Int) from rfl, h1]
  rw [List.drop_zero] at h2
  rw [← h2]
  cases r <;> rfl
def hasR (b : List (List Int)) (e : List Int) : Bool := decide (kindR e = 1) && b.any (eqA 8 e)
def meetR (a b : List (List Int)) : Bool := a.any (hasR b)
theorem meet1_ok (k : Nat) (e : List Int) (b : List (List Int)) (hl : b.length ≤ 140737488351232) (hk : b.length < k) : community_Meet_1.f k e b = some (hasR b e) := by
  unfold community_Meet_1.f hasR
  rw [kind_ok, Option.bind_some]
  by_cases h : kindR e = 1
  · rw [if_pos (by simp [h]), cont_ok b e k hl hk]; simp [h]
  · rw [if_neg (by simp [h])]; simp [h]
theorem indf_l0 (b : List (List Int)) (k0 : Nat) (hb : b.length ≤ 140737488351232) (hk0 : b.length < k0) (l : List (List Int)) (hl : l.length ≤ 140737488351232) : ∀ (m k i : Nat), i + m = l.length → m < k → ∃ r, slices_IndexFunc_Ext_community_Meet_1.l0 k0 l b k (i : Int) = some r ∧ yes r = (l.drop i).any (hasR b)
  | 0, k + 1, i, h, _ => ⟨.inr (), by rw [slices_IndexFunc_Ext_community_Meet_1.l0, if_neg (by simp; omega)], by rw [List.drop_eq_nil_of_le (by omega)]; rfl⟩
  | m + 1, k + 1, i, h, hk => by
    have hi : i < l.length := by omega
    rw [slices_IndexFunc_Ext_community_Meet_1.l0, if_pos (by simp; omega), if_pos (by omega), rdx l i hi, meet1_ok k0 _ b hb hk0, Option.bind_some, List.drop_eq_getElem_cons hi, List.any_cons]
    by_cases he : hasR b l[i] = true
    · exact ⟨.inl i, by rw [if_pos he], by rw [he]; simp [yes]⟩
    · obtain ⟨r, h1, h2⟩ := indf_l0 b k0 hb hk0 l hl m k (i + 1) (by omega) (by omega)
      have e : IntKind.i64.wrap ((i : Int) + 1) = ((i + 1 : Nat) : Int) := by rw [IntKind.wrap_i64]; omega
      exact ⟨r, by rw [if_neg he, e, h1], by rw [h2]; simp [he]⟩
theorem meet_ok (a b : List (List Int)) (k : Nat) (ha : a.length ≤ 140737488351232) (hb : b.length ≤ 140737488351232) (hka : a.length < k) (hkb : b.length < k) : community_Meet.f k a b = some (meetR a b) := by
  obtain ⟨r, h1, h2⟩ := indf_l0 b k hb hkb a ha a.length k 0 (by omega) hka
  unfold community_Meet.f slices_ContainsFunc_Ext_community_Meet_1.f slices_IndexFunc_Ext_community_Meet_1.f meetR
  rw [show ((0 : Int)) = ((0 : Nat) : Int) from rfl, h1]
  rw [List.drop_zero] at h2
  rw [← h2]
  cases r <;> rfl
theorem CommunityTargets.law (kind : Int) (hkd : okI .i64 kind) (h : Int) (hh : okI .i64 h) (l : Int) (hl : okI .i64 l) (a : S_api_Addr) (ha : okS_api_Addr a) (n : Int) (hn : okI .i64 n) : ∃ k, vinerylaw04_CommunityTargets.f k kind h l a n = some true := by
  refine ⟨60, ?_⟩
  have s := small04 0
  have t1 := targ_ok 40 kind h l
  have t2 := imp_ok 40 a n
  have t3 := src_ok 40 h
  simp only [show 40 + 20 = 60 from rfl, show 0 + 60 = 60 from rfl] at *
  have ki : kindR (impR a n).1 ≠ 1 := by
    unfold impR
    split
    · split
      · simp [kindR, ar]
      · decide
    · decide
  have ks : kindR (srcR h).1 ≠ 1 := by
    unfold srcR
    split
    · unfold kindR
      rw [if_neg (fun e => absurd e.1 (by simp [ar])), if_neg (fun e => absurd e.1 (by simp [ar]))]
      split <;> decide
    · decide
  have kt : (targR kind h l).2 = 0 → kindR (targR kind h l).1 = 1 := by
    unfold targR
    split
    · rename_i e
      intro _
      have hk : kind = 0 ∨ kind = 1 ∨ kind = 2 := by
        unfold makeR at e
        rcases hiS_or kind with ⟨h, _⟩ | ⟨h, _⟩ | ⟨_, _, _, h⟩
        · exact .inl h
        · exact .inr h
        · rw [if_pos h] at e; cases e
      rcases hk with rfl | rfl | rfl <;> rfl
    · intro e; exact absurd e (by assumption)
  unfold vinerylaw04_CommunityTargets.f
  rw [s, Option.bind_some, t1, Option.bind_some, t2, Option.bind_some, t3, Option.bind_some]
  generalize targR kind h l = t at *
  generalize impR a n = i at *
  generalize srcR h = c at *
  have m1 : community_Meet.f 60 [i.1, t.1] [t.1, c.1] = some (meetR [i.1, t.1] [t.1, c.1]) := meet_ok _ _ _ (by simp) (by simp) (by simp) (by simp)
  have m2 : community_Meet.f 60 [i.1] [i.1] = some (meetR [i.1] [i.1]) := meet_ok _ _ _ (by simp) (by simp) (by simp) (by simp)
  have m3 : community_Meet.f 60 [c.1] [c.1] = some (meetR [c.1] [c.1]) := meet_ok _ _ _ (by simp) (by simp) (by simp) (by simp)
  have e2 : meetR [i.1] [i.1] = false := by simp [meetR, hasR, ki]
  have e3 : meetR [c.1] [c.1] = false := by simp [meetR, hasR, ks]
  rw [m1, m2, m3, e2, e3, kind_ok]
  have ex : (if (t.2 == (0 : Int)) = true then (some (kindR t.1)).bind fun t79 => (if (t79 != (1 : Int)) = true then some (true : Bool) else (some (meetR [i.1, t.1] [t.1, c.1])).bind fun t91 => some (!t91 : Bool)) else some (false : Bool)) = some false := by
    by_cases h0 : t.2 = 0
    · have k1 := kt h0
      have e1 : meetR [i.1, t.1] [t.1, c.1] = true := by simp [meetR, hasR, k1, es8]
      simp [h0, k1, e1]
    · simp [h0]
  rw [ex]
  by_cases q1 : i.2 = 0 <;> by_cases q2 : c.2 = 0 <;> simp [q1, q2]
end Go.E
