/- The plain law: what the walk computes is true, whatever the input. -/
import Derived.Test.YtcejhnpncodkjaaGreatDoorGenCommunityBack
import Derived.Test.YtcejhnpncodkjaaGreatDoorEngR
set_option linter.unusedVariables false
set_option linter.unusedSimpArgs false
namespace Go.E
theorem bstr_toList (l : List UInt8) : (bstr l).toList = l := by rw [ByteArray.toList_eq]; simp [bstr]
/-! orders -/
structure IsCmp {α : Type} (c : α → α → Int) : Prop where
  range : ∀ a b, c a b = -1 ∨ c a b = 0 ∨ c a b = 1
  neg : ∀ a b, c b a = - c a b
  trans : ∀ a b d, c a b ≤ 0 → c b d ≤ 0 → c a d ≤ 0 ∧ (c a b < 0 ∨ c b d < 0 → c a d < 0)
theorem IsCmp.by {α β : Type} {c : β → β → Int} (h : IsCmp c) (f : α → β) : IsCmp (fun a b => c (f a) (f b)) := ⟨fun _ _ => h.range _ _, fun _ _ => h.neg _ _, fun _ _ _ => h.trans _ _ _⟩
theorem clone_ok (l : List Int) (h : l.length ≤ 140737488355328) : bytes_Clone.f l = some l := if_pos h
theorem next_bad (r : S_cursor_rest) (n : Int) (h : r.bad = true ∨ n < 0 ∨ n > r.left.length) : cursor_rest_next.f r n = some ([], ⟨r.left, true⟩) := by
  unfold cursor_rest_next.f
  by_cases hb : r.bad = true
  · simp [hb]
  · by_cases h1 : n < 0
    · simp [hb, h1]
    · have h2 : (r.left.length : Int) < n := by rcases h with h | h | h <;> first | exact absurd h hb | exact absurd h h1 | exact h
      simp [hb, h1, h2]
theorem next_ok (r : S_cursor_rest) (n : Int) (hb : r.bad = false) (h0 : 0 ≤ n) (h1 : n ≤ r.left.length) : cursor_rest_next.f r n = some (r.left.take n.toNat, ⟨r.left.drop n.toNat, false⟩) := by
  unfold cursor_rest_next.f
  have e0 : ¬ n < 0 := by omega
  have e1 : ¬ (r.left.length : Int) < n := by omega
  simp [hb, e0, e1, h0, h1]
theorem take_ok (r : S_cursor_Reader) (n : Int) (hl : r.rest.left.length ≤ 140737488355328) (hb : r.rest.bad = false) (h0 : 0 ≤ n) (h1 : n ≤ r.rest.left.length) :
    cursor_Reader_Take.f r n = some (r.rest.left.take n.toNat, ⟨⟨r.rest.left.drop n.toNat, false⟩⟩) := by
  unfold cursor_Reader_Take.f
  rw [next_ok _ _ hb h0 h1, Option.bind_some, clone_ok _ (by simp; omega)]
  rfl
/-- what a number's bytes come to -/
def numL : List Int → Int → Int
  | [], x => x
  | c :: l, x => numL l (IntKind.i64.wrap (BitVec.ofInt IntKind.i64.bits (IntKind.i64.wrap (x * 2 ^ (min (8 : Int).toNat IntKind.i64.bits))) ||| BitVec.ofInt IntKind.i64.bits (IntKind.i64.wrap c)).toNat)
theorem num_l0 (t : List Int × S_cursor_rest) (hl : t.1.length ≤ 140737488355328) : ∀ (m k i : Nat) (x : Int), m + i = t.1.length → m < k → cursor_Reader_Num.l0 t k x (i : Int) = some (numL (t.1.drop i) x)
  | 0, k + 1, i, x, h, _ => by
    unfold cursor_Reader_Num.l0
    rw [if_neg (by simp; omega), List.drop_of_length_le (by omega)]
    rfl
  | m + 1, k + 1, i, x, h, hk => by
    unfold cursor_Reader_Num.l0
    have hi : i < t.1.length := by omega
    have e : IntKind.i64.wrap ((i : Int) + 1) = ((i + 1 : Nat) : Int) := by rw [IntKind.wrap_i64]; omega
    rw [if_pos (by simpa using hi), if_pos (by omega), e, num_l0 t hl m k (i + 1) _ (by omega) (by omega), List.drop_eq_getElem_cons hi]
    have er : rd t.1 (i : Int) = t.1[i] := by simp [rd, List.getD, hi]
    rw [er]
    rfl
theorem num_bad (k : Nat) (r : S_cursor_Reader) (n : Int) (h : r.rest.bad = true ∨ n < 1 ∨ n > 4 ∨ n > r.rest.left.length) : cursor_Reader_Num.f (k + 1) r n = some (0, ⟨⟨r.rest.left, true⟩⟩) := by
  unfold cursor_Reader_Num.f
  have hl : cursor_Reader_Num.l0 ([], ⟨r.rest.left, true⟩) (k + 1) 0 0 = some 0 := by unfold cursor_Reader_Num.l0; simp
  by_cases hs : n < 1 ∨ n > 4
  · have : (if decide (n < 1) = true then true else decide (n > 4)) = true := by rcases hs with h | h <;> simp [h]
    rw [if_pos this, Option.bind_some, next_bad _ _ (by omega), Option.bind_some, hl]
    rfl
  · have h1 : ¬ n < 1 := fun e => hs (.inl e)
    have h2 : ¬ 4 < n := fun e => hs (.inr e)
    have : ¬ (if decide (n < 1) = true then true else decide (n > 4)) = true := by simp [h1, h2]
    rw [if_neg this, Option.bind_some, next_bad _ _ (by rcases h with h | h | h | h <;> first | exact .inl h | exact absurd h h1 | exact absurd h h2 | exact .inr (.inr h)), Option.bind_some, hl]
    rfl
theorem num_ok (k : Nat) (r : S_cursor_Reader) (n : Int) (hb : r.rest.bad = false) (h1 : 1 ≤ n) (h4 : n ≤ 4) (hn : n ≤ r.rest.left.length) :
    cursor_Reader_Num.f (k + 5) r n = some (numL (r.rest.left.take n.toNat) 0, ⟨⟨r.rest.left.drop n.toNat, false⟩⟩) := by
  unfold cursor_Reader_Num.f
  have e1 : ¬ n < 1 := by omega
  have e4 : ¬ 4 < n := by omega
  rw [if_neg (by simp [e1, e4]), Option.bind_some, next_ok _ _ hb (by omega) hn, Option.bind_some]
  have hl : (r.rest.left.take n.toNat).length ≤ 4 := by simp; omega
  have := num_l0 (r.rest.left.take n.toNat, ⟨r.rest.left.drop n.toNat, false⟩) (by show (r.rest.left.take n.toNat).length ≤ _; omega) (r.rest.left.take n.toNat).length (k + 5) 0 0 rfl (by omega)
  simp only [Int.ofNat_zero, Int.natCast_zero, List.drop_zero] at this
  rw [this]
  rfl
theorem left_f (r : S_cursor_rest) : cursor_rest_Left.f r = some (if r.bad = true then 0 else (r.left.length : Int)) := by
  unfold cursor_rest_Left.f
  split <;> rfl
theorem fdiv_pos (n : Int) (d : Nat) (hn : 0 ≤ n) : Int.fdiv n (2 ^ d) = n / (2 ^ d) := Int.fdiv_eq_ediv_of_nonneg _ (Int.le_of_lt (Int.pow_pos (by decide)))
theorem put_step (n : Int) (hn : 0 ≤ n) (k : Nat) (x : List Int) (i : Nat) (hi : i ≤ 32) (hx : x.length + 1 ≤ 140737488355328) :
    cursor_Put.l0 n (k + 1) x (i : Int) = cursor_Put.l0 n k (x ++ [(n / 2 ^ i) % 256]) ((i : Int) - 8) := by
  rw [cursor_Put.l0]
  have h0 : (0 : Int) ≤ (i : Int) := by omega
  have e : IntKind.i64.wrap ((i : Int) - 8) = (i : Int) - 8 := by rw [IntKind.wrap_i64]; omega
  have hm : min ((i : Int).toNat) IntKind.i64.bits = i := by
    show min i 64 = i
    omega
  rw [if_pos (by simp), if_pos h0, if_pos (by simp; omega), e, hm, fdiv_pos _ _ hn, IntKind.wrap_u8]
theorem put_end (n : Int) (k : Nat) (x : List Int) (i : Int) (hi : i < 0) : cursor_Put.l0 n (k + 1) x i = some x := by
  rw [cursor_Put.l0, if_neg (by simp; omega)]
def putL (n : Int) : Nat → List Int
  | 1 => [n % 256]
  | 2 => [n / 256 % 256, n % 256]
  | 3 => [n / 65536 % 256, n / 256 % 256, n % 256]
  | 4 => [n / 16777216 % 256, n / 65536 % 256, n / 256 % 256, n % 256]
  | _ => []
theorem put_bad5 (k : Nat) (b : List Int) (n s : Int) (h1 : 1 ≤ s) (h4 : s ≤ 4) (h : n < 0 ∨ n ≥ 2 ^ (8 * s.toNat)) : cursor_Put.f k b n s = some ([], 5) := by
  unfold cursor_Put.f
  have : ¬ (if decide (s < 1) = true then true else decide (s > 4)) = true := by simp; omega
  rw [if_neg this]
  have e : IntKind.i64.wrap ((8 : Int) * s) = 8 * s := by rw [IntKind.wrap_i64]; omega
  rw [e]
  by_cases hn : n < 0
  · simp [hn]
  · have hge : n ≥ 2 ^ (8 * s.toNat) := h.resolve_left hn
    have hm : min ((8 * s).toNat) IntKind.i64.bits = 8 * s.toNat := by show min _ 64 = _; omega
    have hne : (Int.fdiv n (2 ^ (8 * s.toNat)) != 0) = true := by
      rw [fdiv_pos _ _ (by omega)]
      have hp : (0 : Int) < 2 ^ (8 * s.toNat) := Int.pow_pos (by decide)
      have : 1 ≤ n / 2 ^ (8 * s.toNat) := (Int.le_ediv_iff_mul_le hp).2 (by omega)
      simp; omega
    rw [if_neg (by simpa using hn), if_pos (by omega), hm, hne]
    rfl
theorem put_ok (k : Nat) (b : List Int) (n : Int) (s : Nat) (hb : b.length ≤ 140737488351232) (h1 : 1 ≤ s) (h4 : s ≤ 4) (hn : 0 ≤ n) (hlt : n < 2 ^ (8 * s)) : cursor_Put.f (k + 5) b n (s : Int) = some (b ++ putL n s, 0) := by
  unfold cursor_Put.f
  have : ¬ (if decide ((s : Int) < 1) = true then true else decide ((s : Int) > 4)) = true := by simp; omega
  rw [if_neg this]
  have e : IntKind.i64.wrap ((8 : Int) * (s : Int)) = 8 * (s : Int) := by rw [IntKind.wrap_i64]; omega
  have e2 : IntKind.i64.wrap ((8 : Int) * IntKind.i64.wrap ((s : Int) - 1)) = 8 * ((s : Int) - 1) := by rw [IntKind.wrap_i64, IntKind.wrap_i64]; omega
  rw [e, e2]
  have hm : min ((8 * (s : Int)).toNat) IntKind.i64.bits = 8 * s := by show min _ 64 = _; omega
  have hz : (Int.fdiv n (2 ^ (8 * s)) != 0) = false := by
    rw [fdiv_pos _ _ hn, Int.ediv_eq_zero_of_lt hn hlt]; rfl
  rw [if_neg (by simpa using hn), if_pos (by omega), hm, hz, Option.bind_some, if_neg (by simp), clone_ok _ (by omega), Option.bind_some]
  rcases (show s = 1 ∨ s = 2 ∨ s = 3 ∨ s = 4 by omega) with rfl | rfl | rfl | rfl
  · have := put_step n hn (k + 4) b 0 (by omega) (by omega)
    rw [show (8 : Int) * ((1 : Nat) - 1) = ((0 : Nat) : Int) from rfl, this, put_end _ _ _ _ (by omega)]
    simp [putL]
  · have s1 := put_step n hn (k + 4) b 8 (by omega) (by omega)
    have s2 := put_step n hn (k + 3) (b ++ [n / 2 ^ 8 % 256]) 0 (by omega) (by simp; omega)
    rw [show (8 : Int) * ((2 : Nat) - 1) = ((8 : Nat) : Int) from rfl, s1, show ((8 : Nat) : Int) - 8 = ((0 : Nat) : Int) from rfl, s2, put_end _ _ _ _ (by omega)]
    simp [putL]
  · have s1 := put_step n hn (k + 4) b 16 (by omega) (by omega)
    have s2 := put_step n hn (k + 3) (b ++ [n / 2 ^ 16 % 256]) 8 (by omega) (by simp; omega)
    have s3 := put_step n hn (k + 2) (b ++ [n / 2 ^ 16 % 256] ++ [n / 2 ^ 8 % 256]) 0 (by omega) (by simp; omega)
    rw [show (8 : Int) * ((3 : Nat) - 1) = ((16 : Nat) : Int) from rfl, s1, show ((16 : Nat) : Int) - 8 = ((8 : Nat) : Int) from rfl, s2, show ((8 : Nat) : Int) - 8 = ((0 : Nat) : Int) from rfl, s3, put_end _ _ _ _ (by omega)]
    simp [putL]
  · have s1 := put_step n hn (k + 4) b 24 (by omega) (by omega)
    have s2 := put_step n hn (k + 3) (b ++ [n / 2 ^ 24 % 256]) 16 (by omega) (by simp; omega)
    have s3 := put_step n hn (k + 2) (b ++ [n / 2 ^ 24 % 256] ++ [n / 2 ^ 16 % 256]) 8 (by omega) (by simp; omega)
    have s4 := put_step n hn (k + 1) (b ++ [n / 2 ^ 24 % 256] ++ [n / 2 ^ 16 % 256] ++ [n / 2 ^ 8 % 256]) 0 (by omega) (by simp; omega)
    rw [show (8 : Int) * ((4 : Nat) - 1) = ((24 : Nat) : Int) from rfl, s1, show ((24 : Nat) : Int) - 8 = ((16 : Nat) : Int) from rfl, s2, show ((16 : Nat) : Int) - 8 = ((8 : Nat) : Int) from rfl, s3, show ((8 : Nat) : Int) - 8 = ((0 : Nat) : Int) from rfl, s4, put_end _ _ _ _ (by omega)]
    simp [putL]
theorem or_step (x c : Int) (hx : 0 ≤ x) (hx2 : x < 72057594037927936) (hc : 0 ≤ c) (hc2 : c ≤ 255) :
    IntKind.i64.wrap (BitVec.ofInt IntKind.i64.bits (IntKind.i64.wrap (x * 2 ^ (min (8 : Int).toNat IntKind.i64.bits))) ||| BitVec.ofInt IntKind.i64.bits (IntKind.i64.wrap c)).toNat = IntKind.i64.wrap (x * 256 + c) := by
  obtain ⟨a, rfl⟩ := Int.eq_ofNat_of_zero_le hx
  obtain ⟨d, rfl⟩ := Int.eq_ofNat_of_zero_le hc
  congr 1
  have e1 : (BitVec.ofInt IntKind.i64.bits (IntKind.i64.wrap ((a : Int) * 2 ^ (min (8 : Int).toNat IntKind.i64.bits)))).toNat = 2 ^ 8 * a := by
    have : ((a : Int) * 2 ^ (min (8 : Int).toNat IntKind.i64.bits)) = (a : Int) * 256 := rfl
    rw [this, IntKind.wrap_i64, BitVec.toNat_ofInt]
    show (_ % ((2 ^ 64 : Nat) : Int)).toNat = _
    omega
  have e2 : (BitVec.ofInt IntKind.i64.bits (IntKind.i64.wrap (d : Int))).toNat = d := by
    rw [IntKind.wrap_i64, BitVec.toNat_ofInt]
    show (_ % ((2 ^ 64 : Nat) : Int)).toNat = _
    omega
  rw [BitVec.toNat_or, e1, e2, ← Nat.two_pow_add_eq_or_of_lt (by omega : d < 2 ^ 8)]
  omega
theorem numL_cons (c : Int) (l : List Int) (x : Int) (hx : 0 ≤ x) (hx2 : x < 4294967296) (hc : 0 ≤ c) (hc2 : c ≤ 255) : numL (c :: l) x = numL l (x * 256 + c) := by
  rw [numL, or_step x c hx (by omega) hc hc2]
  congr 1
  rw [IntKind.wrap_i64]; omega
theorem num_put (n : Int) (s : Nat) (h1 : 1 ≤ s) (h4 : s ≤ 4) (hn : 0 ≤ n) (hlt : n < 2 ^ (8 * s)) : numL (putL n s) 0 = n := by
  rcases (show s = 1 ∨ s = 2 ∨ s = 3 ∨ s = 4 by omega) with rfl | rfl | rfl | rfl <;> simp only [putL]
  · have : n < 256 := hlt
    rw [numL_cons _ _ _ (by omega) (by omega) (by omega) (by omega), numL]; omega
  · have : n < 65536 := hlt
    rw [numL_cons _ _ _ (by omega) (by omega) (by omega) (by omega), numL_cons _ _ _ (by omega) (by omega) (by omega) (by omega), numL]; omega
  · have : n < 16777216 := hlt
    rw [numL_cons _ _ _ (by omega) (by omega) (by omega) (by omega), numL_cons _ _ _ (by omega) (by omega) (by omega) (by omega), numL_cons _ _ _ (by omega) (by omega) (by omega) (by omega), numL]; omega
  · have : n < 4294967296 := hlt
    rw [numL_cons _ _ _ (by omega) (by omega) (by omega) (by omega), numL_cons _ _ _ (by omega) (by omega) (by omega) (by omega), numL_cons _ _ _ (by omega) (by omega) (by omega) (by omega), numL_cons _ _ _ (by omega) (by omega) (by omega) (by omega), numL]; omega
theorem putL_length (n : Int) (s : Nat) (h1 : 1 ≤ s) (h4 : s ≤ 4) : (putL n s).length = s := by
  rcases (show s = 1 ∨ s = 2 ∨ s = 3 ∨ s = 4 by omega) with rfl | rfl | rfl | rfl <;> rfl
theorem put_num (l : List Int) (h1 : 1 ≤ l.length) (h4 : l.length ≤ 4) (hl : ∀ y ∈ l, 0 ≤ y ∧ y ≤ 255) : 0 ≤ numL l 0 ∧ numL l 0 < 2 ^ (8 * l.length) ∧ putL (numL l 0) l.length = l := by
  match l, h1, h4, hl with
  | [a], _, _, hl =>
    have ha := hl a (by simp)
    rw [numL_cons _ _ _ (by omega) (by omega) ha.1 ha.2, numL]
    simp only [putL, List.length_cons, List.length_nil]
    exact ⟨by omega, by omega, by congr 1; omega⟩
  | [a, b], _, _, hl =>
    have ha := hl a (by simp); have hb := hl b (by simp)
    rw [numL_cons _ _ _ (by omega) (by omega) ha.1 ha.2, numL_cons _ _ _ (by omega) (by omega) hb.1 hb.2, numL]
    simp only [putL, List.length_cons, List.length_nil]
    exact ⟨by omega, by omega, by congr 1; omega; congr 1; omega⟩
  | [a, b, c], _, _, hl =>
    have ha := hl a (by simp); have hb := hl b (by simp); have hc := hl c (by simp)
    rw [numL_cons _ _ _ (by omega) (by omega) ha.1 ha.2, numL_cons _ _ _ (by omega) (by omega) hb.1 hb.2, numL_cons _ _ _ (by omega) (by omega) hc.1 hc.2, numL]
    simp only [putL, List.length_cons, List.length_nil]
    exact ⟨by omega, by omega, by congr 1; omega; congr 1; omega; congr 1; omega⟩
  | [a, b, c, d], _, _, hl =>
    have ha := hl a (by simp); have hb := hl b (by simp); have hc := hl c (by simp); have hd := hl d (by simp)
    rw [numL_cons _ _ _ (by omega) (by omega) ha.1 ha.2, numL_cons _ _ _ (by omega) (by omega) hb.1 hb.2, numL_cons _ _ _ (by omega) (by omega) hc.1 hc.2, numL_cons _ _ _ (by omega) (by omega) hd.1 hd.2, numL]
    simp only [putL, List.length_cons, List.length_nil]
    exact ⟨by omega, by omega, by congr 1; omega; congr 1; omega; congr 1; omega; congr 1; omega⟩
theorem w64 (n : Int) (h : -9223372036854775808 ≤ n ∧ n ≤ 9223372036854775807) : IntKind.i64.wrap n = n := by rw [IntKind.wrap_i64]; omega
def isB (l : List Int) : Prop := ∀ y ∈ l, 0 ≤ y ∧ y ≤ 255
theorem okA_isB {l : List Int} {n : Nat} (h : okA .u8 n l) : isB l := fun y hy => by
  have := h.2 y hy
  have e1 : IntKind.u8.min = 0 := rfl
  have e2 : IntKind.u8.max = 255 := rfl
  unfold okI at this
  omega
theorem rd_at (l : List Int) (i : Nat) (hi : i < l.length) : rd l (i : Int) = l[i] := by simp [rd, List.getD, hi]
theorem ar_at (l : List Int) (i : Nat) (hi : i < l.length) : ar l i = l[i] := by simp [ar, List.getD, hi]
theorem arL_self (l : List Int) : arL l.length l = l := by
  apply List.ext_getElem
  · simp [arL]
  · intro i h1 h2
    simp [arL, ar_at l i h2]
/-! trimming zeros -/
theorem tr_nil (k : Nat) : bytes_trimRightByte.l0 0 (k + 1) [] = some [] := by unfold bytes_trimRightByte.l0; simp
theorem tr_snoc (k : Nat) (y : List Int) (c : Int) (h : y.length ≤ 100) : bytes_trimRightByte.l0 0 (k + 1) (y ++ [c]) = if c = 0 then bytes_trimRightByte.l0 0 k y else some (y ++ [c]) := by
  rw [bytes_trimRightByte.l0]
  have hl : (y ++ [c]).length = y.length + 1 := by simp
  have e : IntKind.i64.wrap (((y ++ [c]).length : Int) - 1) = (y.length : Int) := by rw [hl, IntKind.wrap_i64]; omega
  have er : rd (y ++ [c]) (y.length : Int) = c := by rw [rd_at _ _ (by simp)]; simp
  rw [e, er, if_pos (by simp <;> omega), if_pos (by rw [hl]; omega), Option.bind_some]
  by_cases hc : c = 0
  · rw [if_pos (by simpa using hc), if_pos (by rw [hl]; simp <;> omega), if_pos hc]
    simp
  · rw [if_neg (by simpa using hc), if_neg hc]
theorem tr_ok : ∀ (n k : Nat) (x : List Int), x.length = n → n < k → n ≤ 100 → ∃ r, bytes_trimRightByte.l0 0 k x = some r ∧ r.length ≤ x.length ∧ r.all (· == 0) = x.all (· == 0)
  | 0, k, x, h, hk, _ => by
    obtain ⟨k, rfl⟩ : ∃ k', k = k' + 1 := ⟨k - 1, by omega⟩
    obtain rfl := List.eq_nil_of_length_eq_zero h
    exact ⟨[], tr_nil k, Nat.le_refl _, rfl⟩
  | n + 1, k, x, h, hk, hn => by
    obtain ⟨k, rfl⟩ : ∃ k', k = k' + 1 := ⟨k - 1, by omega⟩
    have hne : x ≠ [] := by intro e; subst e; simp at h
    have hx : x = x.dropLast ++ [x.getLast hne] := (List.dropLast_concat_getLast hne).symm
    have hd : x.dropLast.length = n := by simp [h]
    generalize x.dropLast = y at hx hd
    generalize x.getLast hne = c at hx
    subst hx
    rw [tr_snoc k y c (by omega)]
    by_cases hc : c = 0
    · obtain ⟨r, h1, h2, h3⟩ := tr_ok n k y hd (by omega) (by omega)
      exact ⟨r, by rw [if_pos hc]; exact h1, by simp; omega, by rw [h3]; simp [hc]⟩
    · exact ⟨_, if_neg hc, Nat.le_refl _, rfl⟩
theorem tl_nil (k : Nat) : bytes_trimLeftByte.l0 0 (k + 1) [] = some [] := by unfold bytes_trimLeftByte.l0; simp
theorem tl_cons (k : Nat) (y : List Int) (c : Int) : bytes_trimLeftByte.l0 0 (k + 1) (c :: y) = if c = 0 then bytes_trimLeftByte.l0 0 k y else some (c :: y) := by
  rw [bytes_trimLeftByte.l0]
  have er : rd (c :: y) 0 = c := rfl
  rw [er, if_pos (by simp <;> omega), if_pos (by simp <;> omega), Option.bind_some]
  by_cases hc : c = 0
  · rw [if_pos (by simpa using hc), if_pos (by simp <;> omega), if_pos hc]
    simp
  · rw [if_neg (by simpa using hc), if_neg hc]
theorem tl_ok : ∀ (x : List Int) (k : Nat), x.length < k → ∃ r, bytes_trimLeftByte.l0 0 k x = some r ∧ (((r.length : Int) == 0) = x.all (· == 0))
  | [], k, hk => by
    obtain ⟨k, rfl⟩ : ∃ k', k = k' + 1 := ⟨k - 1, by omega⟩
    exact ⟨[], tl_nil k, rfl⟩
  | c :: y, k, hk => by
    obtain ⟨k, rfl⟩ : ∃ k', k = k' + 1 := ⟨k - 1, by omega⟩
    rw [tl_cons]
    by_cases hc : c = 0
    · obtain ⟨r, h1, h2⟩ := tl_ok y k (by simp at hk; omega)
      exact ⟨r, by rw [if_pos hc]; exact h1, by rw [h2]; simp [hc]⟩
    · refine ⟨_, if_neg hc, ?_⟩
      have : (c == 0) = false := by simpa using hc
      simp only [List.all_cons, this, Bool.false_and]
      simp
      omega
theorem trim_ok (k : Nat) (x : List Int) (hx : x.length ≤ 16) : ∃ r, bytes_Trim.f (k + 20) x [0] = some r ∧ (((r.length : Int) == 0) = x.all (· == 0)) := by
  by_cases h0 : x.length = 0
  · obtain rfl := List.eq_nil_of_length_eq_zero h0
    exact ⟨[], rfl, rfl⟩
  · obtain ⟨r, h1, h2, h3⟩ := tr_ok x.length (k + 20) x rfl (by omega) (by omega)
    obtain ⟨r', h4, h5⟩ := tl_ok r (k + 20) (by omega)
    have e : bytes_Trim.f (k + 20) x [0] = (bytes_trimRightByte.f (k + 20) x 0).bind fun t21 => (bytes_trimLeftByte.f (k + 20) t21 0).bind fun t24 => some t24 := by
      unfold bytes_Trim.f
      have hs : (((bstr ([0] : List UInt8)).size : Int) == (1 : Int)) = true := rfl
      have ez : ((([0] : List UInt8).getD (Int.toNat (0 : Int)) 0).toNat : Int) = 0 := rfl
      rw [if_neg (by simpa using h0), if_neg (by rw [bstr_toList, bstr_toList]; decide), if_pos hs, ez, if_pos (by decide), Option.bind_some, if_pos (by decide), if_pos (by decide), if_pos (by decide)]
    rw [e]
    unfold bytes_trimRightByte.f bytes_trimLeftByte.f
    rw [h1, Option.bind_some, Option.bind_some, h4, Option.bind_some]
    by_cases hr : r'.length = 0
    · obtain rfl := List.eq_nil_of_length_eq_zero hr
      exact ⟨[], rfl, by rw [← h3, ← h5]⟩
    · rw [if_neg (by simpa using hr)]
      exact ⟨r', rfl, by rw [h5, h3]⟩
/-! addresses -/
def isSz (n : Int) : Bool := n == 0 || n == 4 || n == 16
def rightB (a : S_api_Addr) : Bool := isSz a.Size && ((arL 16 a.B).drop a.Size.toNat).all (· == 0)
theorem isSz_or {n : Int} (h : isSz n = true) : n = 0 ∨ n = 4 ∨ n = 16 := by
  unfold isSz at h
  simp only [Bool.or_eq_true, beq_iff_eq] at h
  omega
theorem right_go (k : Nat) (a : S_api_Addr) (h : a.Size = 0 ∨ a.Size = 4 ∨ a.Size = 16) : addr_Right.f (k + 20) a = some (((arL 16 a.B).drop a.Size.toNat).all (· == 0)) := by
  have h16 : (arL 16 a.B).length = 16 := arL_length _ _
  have ht : (arL 16 a.B).take (Int.toNat 16) = arL 16 a.B := by rw [List.take_of_length_le]; rw [h16]; exact Nat.le_refl _
  obtain ⟨r, h1, h2⟩ := trim_ok k ((arL 16 a.B).drop a.Size.toNat) (by rw [List.length_drop, h16]; omega)
  have hc : (if (a.Size == (0 : Int)) = true then some (a.Size == (0 : Int) : Bool) else (if (a.Size == (4 : Int)) = true then some (a.Size == (4 : Int) : Bool) else some (a.Size == (16 : Int) : Bool))) = some true := by
    rcases h with h | h | h <;> simp [h]
  unfold addr_Right.f
  rw [ht, hc, Option.bind_some, if_pos rfl, if_pos (by omega), h1, Option.bind_some, h2]
theorem right_ok (k : Nat) (a : S_api_Addr) : addr_Right.f (k + 20) a = some (rightB a) := by
  by_cases h : a.Size = 0 ∨ a.Size = 4 ∨ a.Size = 16
  · rw [right_go k a h]
    have : isSz a.Size = true := by unfold isSz; simp; omega
    unfold rightB
    rw [this, Bool.true_and]
  · have h0 : ¬ a.Size = 0 := by omega
    have h4 : ¬ a.Size = 4 := by omega
    have h16 : ¬ a.Size = 16 := by omega
    unfold addr_Right.f rightB isSz
    simp [h0, h4, h16]
def zeros : List Int := List.replicate 16 0
theorem of_ok (b : List Int) : addr_Of.f b = some (if isSz b.length = true then (⟨b.length, arC 16 zeros b⟩, 0) else (⟨0, zeros⟩, 1)) := by
  have hc : ∀ n : Int, (if (n == (0 : Int)) = true then some (n == (0 : Int) : Bool) else (if (n == (4 : Int)) = true then some (n == (4 : Int) : Bool) else some (n == (16 : Int) : Bool))) = some (isSz n) := by
    intro n
    unfold isSz
    cases h : (n == 0) <;> cases h' : (n == 4) <;> simp
  unfold addr_Of.f
  rw [hc, Option.bind_some]
  cases isSz (b.length : Int) <;> rfl
def rootL (a : S_api_Addr) : List Int := (arL 16 a.B).take a.Size.toNat
theorem addrbytes_ok (k : Nat) (a : S_api_Addr) (h : rightB a = true) : addr_Bytes.f (k + 20) a = some (rootL a) := by
  unfold addr_Bytes.f
  have hs : a.Size = 0 ∨ a.Size = 4 ∨ a.Size = 16 := isSz_or (by unfold rightB at h; simp only [Bool.and_eq_true] at h; exact h.1)
  rw [right_ok, h, Option.bind_some, if_neg (by simp), if_pos (by omega), clone_ok _ (by simp [arL_length]; omega), Option.bind_some]
  rfl
theorem rootL_length (a : S_api_Addr) (h : rightB a = true) : ((rootL a).length : Int) = a.Size := by
  have hs : a.Size = 0 ∨ a.Size = 4 ∨ a.Size = 16 := isSz_or (by unfold rightB at h; simp only [Bool.and_eq_true] at h; exact h.1)
  unfold rootL
  rw [List.length_take, arL_length]
  omega
theorem root_back (a : S_api_Addr) (h : rightB a = true) (hl : a.B.length = 16) : (⟨((rootL a).length : Int), arC 16 zeros (rootL a)⟩ : S_api_Addr) = a := by
  have hs : a.Size = 0 ∨ a.Size = 4 ∨ a.Size = 16 := isSz_or (by unfold rightB at h; simp only [Bool.and_eq_true] at h; exact h.1)
  have hz : ((arL 16 a.B).drop a.Size.toNat).all (· == 0) = true := by unfold rightB at h; simp only [Bool.and_eq_true] at h; exact h.2
  have hB : arL 16 a.B = a.B := by rw [← hl]; exact arL_self _
  rw [hB] at hz
  have hr := rootL_length a h
  obtain ⟨S, B⟩ := a
  simp only [S_api_Addr.mk.injEq] at *
  refine ⟨hr, ?_⟩
  apply List.ext_getElem
  · rw [arC_length, hl]
  · intro i h1 h2
    have hi : i < 16 := by rw [arC_length] at h1; exact h1
    rw [← ar_at _ i h1, ar_arC _ _ _ _ hi]
    have hrl : (rootL ⟨S, B⟩).length = S.toNat := by omega
    by_cases hlt : i < S.toNat
    · rw [if_pos (by omega)]
      have : rootL ⟨S, B⟩ = B.take S.toNat := by unfold rootL; simp only; rw [hB]
      rw [this, ar_at _ _ (by simp <;> omega)]
      simp
    · rw [if_neg (by omega)]
      have hm : B[i] ∈ B.drop S.toNat := by
        have e : (B.drop S.toNat)[i - S.toNat]? = some B[i] := by rw [List.getElem?_drop, show S.toNat + (i - S.toNat) = i by omega, List.getElem?_eq_getElem h2]
        exact List.mem_of_getElem? e
      have hz' := List.all_eq_true.1 hz B[i] hm
      have : B[i] = 0 := by simpa using hz'
      rw [this]
      unfold zeros ar
      rw [List.getD_eq_getElem?_getD, List.getElem?_replicate, if_pos hi]
      rfl
/-! tunnels -/
/-! route distinguishers -/
def z8 : List Int := [0, 0, 0, 0, 0, 0, 0, 0]
def hiS (kind : Int) : Nat := if kind = 0 then 2 else if kind = 1 ∨ kind = 2 then 4 else 0
def loS (kind : Int) : Nat := 6 - hiS kind
def rdL (kind h l : Int) : List Int := putL kind 2 ++ putL h (hiS kind) ++ putL l (loS kind)
def fits (kind h l : Int) : Bool := decide (0 ≤ h) && (decide (h < 2 ^ (8 * hiS kind)) && (decide (0 ≤ l) && decide (l < 2 ^ (8 * loS kind))))
def makeR (kind h l : Int) : List Int × Int := if hiS kind = 0 then (z8, 1) else if fits kind h l = true then (rdL kind h l, 0) else (z8, 5)
theorem hiS_or (kind : Int) : (kind = 0 ∧ hiS kind = 2) ∨ ((kind = 1 ∨ kind = 2) ∧ hiS kind = 4) ∨ (kind ≠ 0 ∧ kind ≠ 1 ∧ kind ≠ 2 ∧ hiS kind = 0) := by
  unfold hiS
  by_cases h0 : kind = 0
  · exact .inl ⟨h0, by rw [if_pos h0]⟩
  · by_cases h1 : kind = 1 ∨ kind = 2
    · exact .inr (.inl ⟨h1, by rw [if_neg h0, if_pos h1]⟩)
    · exact .inr (.inr ⟨h0, fun e => h1 (.inl e), fun e => h1 (.inr e), by rw [if_neg h0, if_neg h1]⟩)
theorem high_ok (kind : Int) : rd_highSize.f kind = some ((hiS kind : Int), decide (hiS kind ≠ 0)) := by
  rcases hiS_or kind with ⟨rfl, h⟩ | ⟨rfl | rfl, h⟩ | ⟨h0, h1, h2, h⟩
  · rfl
  · rfl
  · rfl
  · unfold rd_highSize.f
    rw [h]
    simp [h0, h1, h2]
theorem rdL_length (kind h l : Int) (hk : hiS kind ≠ 0) : (rdL kind h l).length = 8 := by
  unfold rdL loS
  rcases hiS_or kind with ⟨rfl, e⟩ | ⟨_, e⟩ | ⟨_, _, _, e⟩
  · rw [e]; rfl
  · rw [e]; rfl
  · exact absurd e hk
theorem arC8 (b : List Int) (h : b.length = 8) : arC 8 (List.replicate 8 (0 : Int)) b = b := by
  unfold arC
  rw [List.take_of_length_le (by omega), List.drop_of_length_le (by rw [arL_length]; omega), List.append_nil]
theorem put_any (k : Nat) (b : List Int) (n : Int) (s : Nat) (hb : b.length ≤ 140737488351232) (h1 : 1 ≤ s) (h4 : s ≤ 4) : cursor_Put.f (k + 5) b n (s : Int) = some (if decide (0 ≤ n) && decide (n < 2 ^ (8 * s)) then (b ++ putL n s, 0) else ([], 5)) := by
  by_cases h : 0 ≤ n ∧ n < 2 ^ (8 * s)
  · rw [put_ok k b n s hb h1 h4 h.1 h.2, if_pos (by simp [h.1, h.2])]
  · rw [put_bad5 (k + 5) b n s (by omega) (by omega) (by rw [Int.toNat_natCast]; omega), if_neg (by simp; omega)]
theorem make_ok (k : Nat) (kind h l : Int) : rd_Make.f (k + 5) kind h l = some (makeR kind h l) := by
  unfold rd_Make.f makeR
  rw [high_ok, Option.bind_some]
  by_cases hk : hiS kind = 0
  · rw [if_pos hk, hk]; rfl
  · rw [if_neg hk]
    have hs : 1 ≤ hiS kind ∧ hiS kind ≤ 4 ∧ 1 ≤ loS kind ∧ loS kind ≤ 4 ∧ 0 ≤ kind ∧ kind < 65536 ∧ (6 : Int) - hiS kind = loS kind := by
      unfold loS
      rcases hiS_or kind with ⟨rfl, e⟩ | ⟨rfl | rfl, e⟩ | ⟨_, _, _, e⟩ <;> first | exact absurd e hk | (rw [e]; decide)
    have p1 := put_any k [] kind 2 (by simp) (by decide) (by decide)
    rw [if_pos (by simp; omega)] at p1
    simp only [hk, ne_eq, not_false_eq_true, decide_true, Bool.not_true, Bool.false_eq_true, if_false]
    rw [show (2 : Int) = ((2 : Nat) : Int) from rfl, p1, Option.bind_some, put_any k _ h (hiS kind) (by simp [putL]) hs.1 hs.2.1, Option.bind_some]
    by_cases h1 : (decide (0 ≤ h) && decide (h < 2 ^ (8 * hiS kind))) = true
    · rw [if_pos h1, w64 _ (by omega), hs.2.2.2.2.2.2]
      simp only [beq_self_eq_true, if_true]
      rw [put_any k _ l (loS kind) (by rw [List.length_append, putL_length h _ hs.1 hs.2.1]; simp [putL]; omega) hs.2.2.1 hs.2.2.2.1, Option.bind_some, Option.bind_some]
      by_cases h2 : (decide (0 ≤ l) && decide (l < 2 ^ (8 * loS kind))) = true
      · have hf : fits kind h l = true := by unfold fits; rw [← Bool.and_assoc, h1, h2]; rfl
        rw [if_pos h2, hf]
        simp only [bne_self_eq_false, Bool.false_eq_true, if_false, if_true, List.nil_append]
        rw [arC8 _ (by have := rdL_length kind h l hk; unfold rdL at this; exact this)]
        rfl
      · have hf : fits kind h l = false := by unfold fits; rw [← Bool.and_assoc, h1]; simpa using h2
        rw [if_neg h2, hf]
        rfl
    · have hf : fits kind h l = false := by
        have h1' := Bool.eq_false_iff.2 h1
        unfold fits; rw [← Bool.and_assoc, h1']; rfl
      rw [if_neg h1, hf]
      rfl
theorem arL8 {x : List Int} (h : x.length = 8) : arL 8 x = x := by have := arL_self x; rwa [h] at this

theorem hs_of {kind : Int} (hk : hiS kind ≠ 0) : (hiS kind = 2 ∨ hiS kind = 4) ∧ (loS kind = 2 ∨ loS kind = 4) ∧ 0 ≤ kind ∧ kind < 65536 := by
  unfold loS
  rcases hiS_or kind with ⟨rfl, e⟩ | ⟨rfl | rfl, e⟩ | ⟨_, _, _, e⟩ <;> first | exact absurd e hk | (rw [e]; decide)
def partsR (d : List Int) : Int × Int × Int × Bool :=
  if hiS (numL (d.take 2) 0) = 0 then (0, 0, 0, false)
  else (numL (d.take 2) 0, numL ((d.drop 2).take (hiS (numL (d.take 2) 0))) 0, numL (d.drop (2 + hiS (numL (d.take 2) 0))) 0, true)
theorem parts_ok (k : Nat) (d : List Int) (hd : d.length = 8) : rd_Parts.f (k + 20) d = some (partsR d) := by
  unfold rd_Parts.f partsR cursor_Open.f
  rw [arL8 hd, clone_ok d (by omega), Option.bind_some, Option.bind_some]
  have n1 := num_ok (k + 15) ⟨⟨d, false⟩⟩ 2 rfl (by decide) (by decide) (by simp; omega)
  simp only [show k + 15 + 5 = k + 20 from rfl, show (Int.toNat (2 : Int)) = 2 from rfl] at n1
  simp only [n1, Option.bind_some, high_ok]
  generalize hkd : numL (d.take 2) 0 = kind
  by_cases hk : hiS kind = 0
  · rw [if_pos hk]; simp [hk]
  · have hs := hs_of hk
    have e2 : loS kind = 6 - hiS kind := rfl
    have n2 := num_ok (k + 15) ⟨⟨d.drop 2, false⟩⟩ (hiS kind) rfl (by omega) (by omega) (by simp; omega)
    have n3 := num_ok (k + 15) ⟨⟨(d.drop 2).drop (hiS kind), false⟩⟩ (loS kind) rfl (by omega) (by omega) (by simp; omega)
    have ln : (((d.drop 2).drop (hiS kind)).length : Int) = (loS kind : Int) := by simp; omega
    simp only [show k + 15 + 5 = k + 20 from rfl, Int.toNat_natCast] at n2 n3
    rw [if_neg hk]
    simp only [hk, ne_eq, not_false_eq_true, decide_true, Bool.not_true, Bool.false_eq_true, if_false, n2, Option.bind_some, left_f, ln, n3]
    have e3 : ((d.drop 2).drop (hiS kind)).take (loS kind) = d.drop (2 + hiS kind) := by
      rw [List.drop_drop, List.take_of_length_le (by simp; omega)]
    rw [e3]
/-! decimal numerals -/
theorem dec_digit : ∀ (u : Nat), ∀ c ∈ Lib.decDigits u, 48 ≤ c.toNat ∧ c.toNat ≤ 57 := by
  intro u
  induction u using Nat.strongRecOn with
  | ind u ih =>
    intro c hc
    rw [Lib.decDigits] at hc
    split at hc
    · simp only [List.mem_singleton] at hc
      subst hc
      rw [UInt8.toNat_ofNat']; omega
    · rcases List.mem_append.1 hc with h | h
      · exact ih (u / 10) (by omega) c h
      · simp only [List.mem_singleton] at h
        subst h
        rw [UInt8.toNat_ofNat']; omega
theorem itoa_nat (n : Int) (h : 0 ≤ n) : Lib.itoa n = Lib.decDigits n.toNat := by unfold Lib.itoa; rw [if_neg (by omega)]
theorem itoa_free (n : Int) (h : 0 ≤ n) (c : UInt8) (hc : c.toNat < 48 ∨ 57 < c.toNat) : c ∉ Lib.itoa n := by
  rw [itoa_nat n h]
  intro hm
  have := dec_digit _ c hm
  omega
theorem dec_len : ∀ (u : Nat), (Lib.decDigits u).length ≤ u + 1 := by
  intro u
  induction u using Nat.strongRecOn with
  | ind u ih =>
    rw [Lib.decDigits]
    split
    · simp
    · have := ih (u / 10) (by omega)
      rw [List.length_append, List.length_singleton]; omega
theorem ar_isB {x : List Int} (h : isB x) (i : Nat) : 0 ≤ ar x i ∧ ar x i ≤ 255 := by
  by_cases hj : i < x.length
  · rw [ar_at x i hj]; exact h _ (List.getElem_mem hj)
  · have : ar x i = 0 := by simp [ar, List.getD, List.getElem?_eq_none (Nat.not_lt.1 hj)]
    rw [this]; decide
/-! an address of four bytes as a text -/
def nums4 (l : List Int) : List (List UInt8) := [Lib.itoa (ar l 0), Lib.itoa (ar l 1), Lib.itoa (ar l 2), Lib.itoa (ar l 3)]
def txt4 (l : List Int) : List UInt8 := Lib.join (nums4 l) [46]
theorem take4 (l : List Int) : (((arL 16 l).take (Int.toNat (4 : Int))).drop (Int.toNat (0 : Int))) = [ar l 0, ar l 1, ar l 2, ar l 3] := rfl
theorem itoa_f (n : Int) (h : 0 ≤ n ∧ n ≤ 255) : strconv_Itoa.f (IntKind.i64.wrap n) = some (Lib.itoa n) := by
  unfold strconv_Itoa.f
  rw [w64 _ (by omega), if_pos (by omega)]
theorem text4_go (a : S_api_Addr) (hB : isB a.B) (k : Nat) : addr_Text.l0 a (k + 5) [] 0 = some (nums4 a.B) := by
  have h0 := ar_isB hB 0; have h1 := ar_isB hB 1; have h2 := ar_isB hB 2; have h3 := ar_isB hB 3
  have r0 : rd [ar a.B 0, ar a.B 1, ar a.B 2, ar a.B 3] 0 = ar a.B 0 := rfl
  have r1 : rd [ar a.B 0, ar a.B 1, ar a.B 2, ar a.B 3] 1 = ar a.B 1 := rfl
  have r2 : rd [ar a.B 0, ar a.B 1, ar a.B 2, ar a.B 3] 2 = ar a.B 2 := rfl
  have r3 : rd [ar a.B 0, ar a.B 1, ar a.B 2, ar a.B 3] 3 = ar a.B 3 := rfl
  have w1 : IntKind.i64.wrap (0 + 1) = 1 := by decide
  have w2 : IntKind.i64.wrap (1 + 1) = 2 := by decide
  have w3 : IntKind.i64.wrap (2 + 1) = 3 := by decide
  have w4 : IntKind.i64.wrap (3 + 1) = 4 := by decide
  rw [addr_Text.l0, take4, if_pos (by simp), if_pos (by simp), r0, itoa_f _ h0, Option.bind_some, if_pos (by simp), w1,
    addr_Text.l0, take4, if_pos (by simp), if_pos (by simp), r1, itoa_f _ h1, Option.bind_some, if_pos (by simp), w2,
    addr_Text.l0, take4, if_pos (by simp), if_pos (by simp), r2, itoa_f _ h2, Option.bind_some, if_pos (by simp), w3,
    addr_Text.l0, take4, if_pos (by simp), if_pos (by simp), r3, itoa_f _ h3, Option.bind_some, if_pos (by simp), w4,
    addr_Text.l0, take4, if_neg (by simp)]
  rfl
theorem txt4_eq (l : List Int) : txt4 l = Lib.itoa (ar l 0) ++ 46 :: (Lib.itoa (ar l 1) ++ 46 :: (Lib.itoa (ar l 2) ++ 46 :: Lib.itoa (ar l 3))) := by
  unfold txt4 nums4 Lib.join
  simp [List.intercalate, List.intersperse]
theorem text4_ok (k : Nat) (a : S_api_Addr) (hr : rightB a = true) (h4 : a.Size = 4) (hB : isB a.B) : addr_Text.f (k + 20) a = some (txt4 a.B) := by
  have len : ∀ i, (Lib.itoa (ar a.B i)).length ≤ 256 := fun i => by
    have := ar_isB hB i
    rw [itoa_nat _ this.1]
    have := dec_len (ar a.B i).toNat
    omega
  have l0 := len 0; have l1 := len 1; have l2 := len 2; have l3 := len 3
  unfold addr_Text.f
  rw [right_ok, hr, Option.bind_some, if_neg (by simp), if_pos (by simp [h4]), if_pos (by decide), text4_go a hB (k + 15), Option.bind_some]
  unfold strings_Join.f
  have e := congrArg List.length (txt4_eq a.B)
  simp only [List.length_append, List.length_cons] at e
  have el : (Lib.join (nums4 a.B) [46]).length = (txt4 a.B).length := rfl
  rw [if_pos ⟨by simp [nums4], by rw [el]; omega⟩]
  rfl
theorem txt4_free (l : List Int) (hl : isB l) : (58 : UInt8) ∉ txt4 l := by
  have fr : ∀ i, (58 : UInt8) ∉ Lib.itoa (ar l i) := fun i => itoa_free _ (ar_isB hl i).1 _ (.inr (by decide))
  rw [txt4_eq]
  simp [fr]
/-! the text of what is made -/
def a4 (h : Int) : S_api_Addr := ⟨4, arC 16 zeros (putL h 4)⟩
def nameR (kind h : Int) : List UInt8 := if kind = 1 then txt4 (a4 h).B else Lib.itoa h
def textR (kind h l : Int) : List UInt8 := (((Lib.itoa kind ++ [58]) ++ nameR kind h) ++ [58]) ++ Lib.itoa l
theorem fits_range {kind h l : Int} (hf : fits kind h l = true) : 0 ≤ h ∧ h < 2 ^ (8 * hiS kind) ∧ 0 ≤ l ∧ l < 2 ^ (8 * loS kind) := by
  unfold fits at hf
  simpa only [Bool.and_eq_true, decide_eq_true_eq] using hf
theorem fits_32 {kind h l : Int} (hk : hiS kind ≠ 0) (hf : fits kind h l = true) : 0 ≤ h ∧ h < 4294967296 ∧ 0 ≤ l ∧ l < 4294967296 := by
  have r := fits_range hf
  have hs := hs_of hk
  refine ⟨r.1, ?_, r.2.2.1, ?_⟩
  · rcases hs.1 with e | e <;> rw [e] at r
    · have : h < 65536 := r.2.1
      omega
    · exact r.2.1
  · rcases hs.2.1 with e | e <;> rw [e] at r
    · have : l < 65536 := r.2.2.2
      omega
    · exact r.2.2.2
theorem parts_rdL {kind h l : Int} (hk : hiS kind ≠ 0) (hf : fits kind h l = true) : partsR (rdL kind h l) = (kind, h, l, true) := by
  have r := fits_range hf
  have hs := hs_of hk
  have l1 := putL_length kind 2 (by decide) (by decide)
  have l2 := putL_length h (hiS kind) (by omega) (by omega)
  have t1 : (rdL kind h l).take 2 = putL kind 2 := by
    unfold rdL; rw [List.append_assoc, List.take_left' l1]
  have d1 : (rdL kind h l).drop 2 = putL h (hiS kind) ++ putL l (loS kind) := by
    unfold rdL; rw [List.append_assoc, List.drop_left' l1]
  have n1 : numL (putL kind 2) 0 = kind := num_put kind 2 (by decide) (by decide) hs.2.2.1 hs.2.2.2
  unfold partsR
  rw [t1, n1, if_neg hk, d1, List.take_left' l2, num_put h _ (by omega) (by omega) r.1 r.2.1, ← List.drop_drop, d1, List.drop_left' l2, num_put l _ (by omega) (by omega) r.2.2.1 r.2.2.2]
theorem a4_right (h : Int) : rightB (a4 h) = true := by unfold a4 putL; kernel_rfl
theorem a4_isB (h : Int) : isB (a4 h).B := fun y hy => by
  unfold a4 putL at hy
  have e : arC 16 zeros [h / 16777216 % 256, h / 65536 % 256, h / 256 % 256, h % 256] = [h / 16777216 % 256, h / 65536 % 256, h / 256 % 256, h % 256, 0, 0, 0, 0, 0, 0, 0, 0, 0, 0, 0, 0] := by kernel_rfl
  simp only [e, List.mem_cons, List.not_mem_nil, or_false] at hy
  omega
theorem itoa_len (n : Int) (h : 0 ≤ n) : (Lib.itoa n).length ≤ n.toNat + 1 := by rw [itoa_nat n h]; exact dec_len _
theorem itoa_f64 (n : Int) (h : 0 ≤ n) (h2 : n < 4294967296) : strconv_Itoa.f n = some (Lib.itoa n) := by
  unfold strconv_Itoa.f
  rw [if_pos (by omega)]
theorem name_len (kind h : Int) (h0 : 0 ≤ h) (h1 : h < 4294967296) : (nameR kind h).length ≤ 4294967296 := by
  unfold nameR
  split
  · have e := congrArg List.length (txt4_eq (a4 h).B)
    simp only [List.length_append, List.length_cons] at e
    have l := fun i => itoa_len (ar (a4 h).B i) (ar_isB (a4_isB h) i).1
    have r := fun i => (ar_isB (a4_isB h) i).2
    have a0 := l 0; have a1 := l 1; have a2 := l 2; have a3 := l 3
    have b0 := r 0; have b1 := r 1; have b2 := r 2; have b3 := r 3
    omega
  · have := itoa_len h h0
    omega
theorem text_ok (k : Nat) {kind h l : Int} (hk : hiS kind ≠ 0) (hf : fits kind h l = true) : rd_Text.f (k + 20) (rdL kind h l) = some (textR kind h l) := by
  have r := fits_32 hk hf
  have hs := hs_of hk
  have ld := rdL_length kind h l hk
  unfold rd_Text.f
  rw [parts_ok k _ ld, Option.bind_some, parts_rdL hk hf]
  simp only [Bool.not_true, Bool.false_eq_true, if_false]
  rw [itoa_f64 h r.1 r.2.1, Option.bind_some]
  have en : ((if (kind == (1 : Int)) = true then (if 0 ≤ (2 : Int) ∧ (2 : Int) ≤ (6 : Int) ∧ (6 : Int) ≤ (8 : Int) then (addr_Of.f (((arL 8 (rdL kind h l)).take (Int.toNat (6 : Int))).drop (Int.toNat (2 : Int)))).bind fun t65 => (addr_Text.f (k + 20) t65.1).bind fun t72 => some (t72 : List UInt8) else none) else some (Lib.itoa h))) = some (nameR kind h) := by
    by_cases h1 : kind = 1
    · subst h1
      have e : ((arL 8 (rdL 1 h l)).take (Int.toNat (6 : Int))).drop (Int.toNat (2 : Int)) = putL h 4 := by
        rw [arL8 ld]
        unfold rdL putL hiS loS
        rfl
      rw [if_pos (by simp), if_pos (by decide), e, of_ok, if_pos (show isSz ((putL h 4).length : Int) = true from rfl), Option.bind_some]
      have := text4_ok k (a4 h) (a4_right h) rfl (a4_isB h)
      unfold nameR
      rw [if_pos rfl]
      rw [show (⟨((putL h 4).length : Int), arC 16 zeros (putL h 4)⟩ : S_api_Addr) = a4 h from rfl, this]
      rfl
    · rw [if_neg (by simpa using h1)]
      unfold nameR
      rw [if_neg h1]
  rw [en, Option.bind_some, itoa_f64 kind hs.2.2.1 (by omega), Option.bind_some, itoa_f64 l r.2.2.1 r.2.2.2]
  have e1 := itoa_len kind hs.2.2.1
  have e2 := name_len kind h r.1 r.2.1
  have e3 := itoa_len l r.2.2.1
  simp only [Option.bind_some]
  rw [if_pos (by simp; omega), if_pos (by simp; omega), if_pos (by simp; omega), if_pos (by simp; omega)]
  rfl
theorem name_free (kind h : Int) (h0 : 0 ≤ h) : (58 : UInt8) ∉ nameR kind h := by
  unfold nameR
  split
  · exact txt4_free _ (a4_isB h)
  · exact itoa_free _ h0 _ (.inr (by decide))
/-! numbers between signs, read -/
theorem dec_le (s : List UInt8) (p : Nat) : (dec s p).1 ≤ 2147483647 := decode_le (bstr s) p
theorem dec_ascii (s : List UInt8) (p : Nat) (h : p < s.length) (ha : (s[p]).toNat < 128) : dec s p = ((s[p]).toNat, 1) := decode_ascii (bstr s) p h ha
theorem dec_high (s : List UInt8) (p : Nat) (h : p < s.length) (ha : 128 ≤ (s[p]).toNat) : 128 ≤ (dec s p).1 ∧ 1 ≤ (dec s p).2 := decode_high (bstr s) p h ha
theorem dec_pos (s : List UInt8) (p : Nat) (h : p < s.length) : 1 ≤ (dec s p).2 := by
  by_cases ha : (s[p]).toNat < 128
  · rw [dec_ascii s p h ha]; exact Nat.le_refl _
  · exact (dec_high s p h (by omega)).2
def digV (c base : Nat) : Option Nat :=
  if 48 ≤ c ∧ c ≤ 57 then (if c - 48 < base then some (c - 48) else none)
  else if 97 ≤ c ∧ c ≤ 102 then (if c - 87 < base then some (c - 87) else none) else none
theorem w32 (n : Int) (h : -2147483648 ≤ n ∧ n ≤ 2147483647) : IntKind.i32.wrap n = n := by rw [IntKind.wrap_i32]; omega
theorem value_ok (c base : Nat) (hc : c ≤ 2147483647) (hb : base ≤ 16) : addr_value.f (c : Int) (base : Int) = some (match digV c base with
    | some d => ((d : Int), true)
    | none => (if 48 ≤ c ∧ c ≤ 57 then (c : Int) - 48 else if 97 ≤ c ∧ c ≤ 102 then (c : Int) - 87 else base, false)) := by
  unfold addr_value.f digV
  by_cases h1 : 48 ≤ c ∧ c ≤ 57
  · rw [if_pos (by simp; omega), w32 _ (by omega), w64 _ (by omega), if_pos h1]
    by_cases h2 : c - 48 < base
    · rw [if_pos h2, decide_eq_true (by omega)]; simp; omega
    · rw [if_neg h2, decide_eq_false (by omega)]; simp [h1]
  · rw [if_neg (by simp; omega), if_neg h1]
    by_cases h3 : 97 ≤ c ∧ c ≤ 102
    · rw [if_pos (by simp; omega), w32 _ (by omega), w64 ((c : Int) - 97) (by omega), w64 _ (by omega), if_pos h3]
      by_cases h2 : c - 87 < base
      · rw [if_pos h2, decide_eq_true (by omega)]; simp; omega
      · rw [if_neg h2, decide_eq_false (by omega)]; simp [h1, h3]; omega
    · rw [if_neg (by simp; omega), if_neg h3]
      simp [h1, h3]
theorem last_rd (out : List Int) (v : Int) : rd (out ++ [v]) ((out.length : Nat) : Int) = v := by
  rw [rd_at _ _ (by simp)]; simp
theorem last_set (out : List Int) (v n : Int) : (out ++ [v]).set out.length n = out ++ [n] := by
  rw [List.set_append_right _ _ (Nat.le_refl _)]; simp
def nextN (v : Int) (base d : Nat) : Int := (if v < 0 then 0 else v) * base + d
theorem parts_step (s : List UInt8) (sep base limit : Nat) (hb : base ≤ 16) (hl : limit ≤ 65536) (k : Nat) (out : List Int) (v : Int) (p : Nat) (hp : p < s.length) (ho : out.length ≤ 140737488351232 - 1000) (hv : -1 ≤ v ∧ v ≤ 65536) (ho2 : (out.length + 2) * 8 ≤ 140737488355328) :
    addr_parts.l0 s (sep : Int) (base : Int) (limit : Int) (k + 1) (out ++ [v]) p =
      if (dec s p).1 = sep then addr_parts.l0 s (sep : Int) (base : Int) (limit : Int) k ((out ++ [v]) ++ [-1]) (p + (dec s p).2)
      else match digV (dec s p).1 base with
        | none => some (.inl ([], false))
        | some d => if (limit : Int) ≤ nextN v base d ∨ v = 0 then some (.inl ([], false)) else addr_parts.l0 s (sep : Int) (base : Int) (limit : Int) k (out ++ [nextN v base d]) (p + (dec s p).2) := by
  have hc := dec_le s p
  have e1 : IntKind.i64.wrap (((out ++ [v]).length : Int) - 1) = ((out.length : Nat) : Int) := by
    rw [w64 _ (by simp; omega)]; simp
  have e2 : ((out ++ [v]).length : Int) = (out.length : Int) + 1 := by simp
  rw [addr_parts.l0, if_pos hp]
  by_cases h1 : (dec s p).1 = sep
  · rw [if_pos (by simpa using congrArg Nat.cast h1), if_pos h1, if_pos (by simp; omega)]
  · rw [if_neg (by simp; omega), if_neg h1, value_ok _ _ hc hb, Option.bind_some]
    simp only [e1, last_rd]
    rw [if_pos (by rw [e2]; omega)]
    cases hd : digV (dec s p).1 base with
    | none => simp
    | some d =>
      have hdb : d < base := by
        unfold digV at hd
        (repeat' split at hd) <;> simp at hd <;> omega
      have hm : (if (0 : Int) > v then (0 : Int) else v) = (if v < 0 then 0 else v) := rfl
      have hn : 0 ≤ nextN v base d ∧ nextN v base d ≤ 2000000 := by
        unfold nextN
        have hbz : (0 : Int) ≤ base ∧ (base : Int) ≤ 16 := by omega
        split
        · omega
        · have q1 : 0 ≤ v * (base : Int) := Int.mul_nonneg (by omega) hbz.1
          have q2 : v * (base : Int) ≤ v * 16 := Int.mul_le_mul_of_nonneg_left hbz.2 (by omega)
          omega
      have hmm : 0 ≤ (if v < 0 then (0 : Int) else v) * base ∧ (if v < 0 then (0 : Int) else v) * base ≤ 2000000 := by
        unfold nextN at hn
        have : (0 : Int) ≤ (if v < 0 then (0 : Int) else v) * base := Int.mul_nonneg (by split <;> omega) (by omega)
        omega
      have ew : IntKind.i64.wrap (IntKind.i64.wrap ((if (0 : Int) > v then (0 : Int) else v) * (base : Int)) + (d : Int)) = nextN v base d := by
        rw [hm, w64 ((if v < 0 then (0 : Int) else v) * (base : Int)) (by omega), w64 _ (by unfold nextN at hn; omega)]; rfl
      simp only [Bool.not_true, Bool.false_eq_true, if_false, ew]
      by_cases h2 : (limit : Int) ≤ nextN v base d
      · rw [if_pos (by simpa using h2), Option.bind_some, if_pos rfl, if_pos (.inl h2)]
      · rw [if_neg (by simpa using h2), if_pos (by rw [e2]; omega), Option.bind_some]
        by_cases h3 : v = 0
        · rw [if_pos (by simpa using h3), if_pos (.inr h3)]
        · rw [if_neg (by simpa using h3)]
          rw [if_pos (by rw [e2]; omega), Int.toNat_natCast, last_set, if_neg (show ¬ ((limit : Int) ≤ nextN v base d ∨ v = 0) from fun hh => hh.elim h2 h3)]
def dgt (d : Nat) : UInt8 := UInt8.ofNat (if d < 10 then 48 + d else 87 + d)
def numD (base u : Nat) : List UInt8 := if h : u < base ∨ base < 2 then [dgt u] else numD base (u / base) ++ [dgt (u % base)]
termination_by u
decreasing_by exact Nat.div_lt_self (by omega) (by omega)
theorem numD_small {base u : Nat} (h : u < base) : numD base u = [dgt u] := by rw [numD, dif_pos (.inl h)]
theorem numD_big {base u : Nat} (h : base ≤ u) (hb : 2 ≤ base) : numD base u = numD base (u / base) ++ [dgt (u % base)] := by rw [numD, dif_neg (by omega)]
theorem numD_dec : ∀ u : Nat, Lib.decDigits u = numD 10 u := by
  intro u
  induction u using Nat.strongRecOn with
  | ind u ih =>
    rw [Lib.decDigits]
    split
    · rename_i h
      rw [numD_small h]; unfold dgt; rw [if_pos h]
    · rename_i h
      rw [numD_big (by omega) (by decide), ih (u / 10) (by omega)]
      unfold dgt
      rw [if_pos (Nat.mod_lt _ (by decide))]
theorem dgt_toNat {d : Nat} (h : d < 16) : (dgt d).toNat = if d < 10 then 48 + d else 87 + d := by
  unfold dgt
  rw [UInt8.toNat_ofNat']
  split <;> omega
theorem digV_dgt {d base : Nat} (h : d < base) (hb : base ≤ 16) : digV (dgt d).toNat base = some d := by
  rw [dgt_toNat (by omega)]
  unfold digV
  by_cases h1 : d < 10
  · rw [if_pos h1, if_pos (by omega), if_pos (by omega)]; congr 1; omega
  · rw [if_neg h1, if_neg (by omega), if_pos (by omega), if_pos (by omega)]; congr 1; omega
theorem numD_len {base : Nat} (hb : 2 ≤ base) : ∀ u, 1 ≤ (numD base u).length := by
  intro u
  rw [numD]
  split <;> simp
theorem parts_num (s : List UInt8) (sep base limit : Nat) (hb2 : 2 ≤ base) (hb : base ≤ 16) (hl : limit ≤ 65536) (hsep : sep < 48 ∨ sep = 58 ∨ 102 < sep) (out : List Int) (ho : out.length ≤ 1000000) :
    ∀ (u k p : Nat) (rest : List UInt8), s.drop p = numD base u ++ rest → u < limit →
      addr_parts.l0 s (sep : Int) (base : Int) (limit : Int) (k + (numD base u).length) (out ++ [-1]) p = addr_parts.l0 s (sep : Int) (base : Int) (limit : Int) k (out ++ [(u : Int)]) (p + (numD base u).length) := by
  have one : ∀ (v : Int) (d k p : Nat) (rest : List UInt8), -1 ≤ v → v ≤ 65536 → v ≠ 0 → d < base → s.drop p = dgt d :: rest → nextN v base d < limit →
      addr_parts.l0 s (sep : Int) (base : Int) (limit : Int) (k + 1) (out ++ [v]) p = addr_parts.l0 s (sep : Int) (base : Int) (limit : Int) k (out ++ [nextN v base d]) (p + 1) := by
    intro v d k p rest h1 h2 h3 h4 h5 h6
    have hp : p < s.length := by
      have := congrArg List.length h5
      rw [List.length_drop, List.length_cons] at this
      omega
    have hc : s[p] = dgt d := by
      have := congrArg (fun l => l[0]?) h5
      simp only [List.getElem?_drop, Nat.add_zero, List.getElem?_cons_zero] at this
      rw [List.getElem?_eq_getElem hp] at this
      exact Option.some.inj this
    have hdn := dgt_toNat (d := d) (by omega)
    have hdec : dec s p = ((dgt d).toNat, 1) := by
      rw [dec_ascii s p hp (by rw [hc, hdn]; split <;> omega), hc]
    rw [parts_step s sep base limit hb hl k out v p hp (by omega) ⟨h1, h2⟩ (by omega), hdec, if_neg (by simp only; rw [hdn]; split <;> omega)]
    simp only [digV_dgt h4 hb]
    rw [if_neg (by omega)]
  intro u
  induction u using Nat.strongRecOn with
  | ind u ih =>
    intro k p rest hs hu
    by_cases hsm : u < base
    · rw [numD_small hsm] at hs ⊢
      have := one (-1) u k p rest (by omega) (by omega) (by omega) hsm hs (by unfold nextN; simp; omega)
      rw [show nextN (-1) base u = (u : Int) by unfold nextN; simp] at this
      exact this
    · have hq : u / base < u := Nat.div_lt_self (by omega) (by omega)
      have hbig := numD_big (base := base) (u := u) (by omega) hb2
      rw [hbig] at hs ⊢
      rw [List.append_assoc] at hs
      have i1 := ih (u / base) hq (k + 1) p ([dgt (u % base)] ++ rest) hs (by omega)
      rw [List.length_append, List.length_singleton, show k + ((numD base (u / base)).length + 1) = (k + 1) + (numD base (u / base)).length by omega, i1]
      have hmul := Nat.div_add_mod u base
      have hpos : 1 ≤ u / base := (Nat.one_le_div_iff (by omega)).2 (by omega)
      have en : nextN ((u / base : Nat) : Int) base (u % base) = (u : Int) := by
        unfold nextN
        rw [if_neg (by omega)]
        have : u / base * base + u % base = u := by rw [Nat.mul_comm]; exact hmul
        exact_mod_cast this
      have := one ((u / base : Nat) : Int) (u % base) k (p + (numD base (u / base)).length) rest (by omega) (by omega) (by omega) (Nat.mod_lt _ (by omega)) (by
        have := congrArg (List.drop (numD base (u / base)).length) hs
        rw [List.drop_drop, List.drop_left] at this
        exact this) (by rw [en]; omega)
      rw [this, en, Nat.add_assoc]
def txtL (base : Nat) (sep : UInt8) : List Nat → List UInt8
  | [] => []
  | [u] => numD base u
  | u :: v :: us => numD base u ++ sep :: txtL base sep (v :: us)
theorem parts_list (s : List UInt8) (sep : UInt8) (base limit : Nat) (hb2 : 2 ≤ base) (hb : base ≤ 16) (hl : limit ≤ 65536) (hsep : sep.toNat < 48 ∨ sep.toNat = 58) :
    ∀ (us : List Nat) (out : List Int) (k p : Nat), us ≠ [] → out.length + us.length ≤ 1000000 → s.drop p = txtL base sep us → (∀ u ∈ us, u < limit) →
      addr_parts.l0 s (sep.toNat : Int) (base : Int) (limit : Int) (k + (txtL base sep us).length + 1) (out ++ [-1]) p = some (.inr (out ++ us.map (fun u : Nat => (u : Int)), p + (txtL base sep us).length))
  | [], _, _, _, h, _, _, _ => absurd rfl h
  | [u], out, k, p, _, ho, hs, hlt => by
    have h1 := parts_num s sep.toNat base limit hb2 hb hl (by omega) out (by simp at ho; omega) u (k + 1) p [] (by rw [hs, List.append_nil]; rfl) (hlt u (by simp))
    have hlen : p + (numD base u).length = s.length := by
      have := congrArg List.length hs
      have h2 := numD_len hb2 u
      rw [List.length_drop] at this
      simp only [txtL] at this
      omega
    simp only [txtL]
    rw [show k + (numD base u).length + 1 = (k + 1) + (numD base u).length by omega, h1, addr_parts.l0, if_neg (by omega)]
    rfl
  | u :: v :: us, out, k, p, _, ho, hs, hlt => by
    simp only [List.length_cons] at ho
    have e : txtL base sep (u :: v :: us) = numD base u ++ sep :: txtL base sep (v :: us) := rfl
    rw [e] at hs ⊢
    have h1 := parts_num s sep.toNat base limit hb2 hb hl (by omega) out (by omega) u (k + (txtL base sep (v :: us)).length + 1 + 1) p (sep :: txtL base sep (v :: us)) hs (hlt u (by simp))
    have hs2 : s.drop (p + (numD base u).length) = sep :: txtL base sep (v :: us) := by
      have := congrArg (List.drop (numD base u).length) hs
      rw [List.drop_drop, List.drop_left] at this
      exact this
    have hp : p + (numD base u).length < s.length := by
      have := congrArg List.length hs2
      rw [List.length_drop, List.length_cons] at this
      omega
    have hc : s[p + (numD base u).length] = sep := by
      have := congrArg (fun l => l[0]?) hs2
      simp only [List.getElem?_drop, Nat.add_zero, List.getElem?_cons_zero] at this
      rw [List.getElem?_eq_getElem hp] at this
      exact Option.some.inj this
    have hdec : dec s (p + (numD base u).length) = (sep.toNat, 1) := by
      rw [dec_ascii s _ hp (by rw [hc]; omega), hc]
    have hu := hlt u (by simp)
    have h2 := parts_step s sep.toNat base limit hb hl (k + (txtL base sep (v :: us)).length + 1) out (u : Int) _ hp (by omega) (by omega) (by omega)
    rw [hdec, if_pos rfl] at h2
    have h3 := parts_list s sep base limit hb2 hb hl hsep (v :: us) (out ++ [(u : Int)]) k (p + (numD base u).length + 1) (by simp) (by simp; omega) (by
      have := congrArg (List.drop 1) hs2
      rw [List.drop_drop] at this
      exact this) (fun x hx => hlt x (by simp at hx ⊢; right; exact hx))
    rw [List.length_append, List.length_cons, show k + ((numD base u).length + ((txtL base sep (v :: us)).length + 1)) + 1 = (k + (txtL base sep (v :: us)).length + 1 + 1) + (numD base u).length by omega, h1, h2]
    simp only
    rw [h3]
    simp only [List.map_cons, List.append_assoc, List.cons_append, List.nil_append]
    rw [show p + (numD base u).length + 1 + (txtL base sep (v :: us)).length = p + ((numD base u).length + ((txtL base sep (v :: us)).length + 1)) by omega]
theorem parts_f (k : Nat) (sep : UInt8) (base limit : Nat) (hb2 : 2 ≤ base) (hb : base ≤ 16) (hl : limit ≤ 65536) (hsep : sep.toNat < 48 ∨ sep.toNat = 58) (us : List Nat) (hus : us ≠ []) (hu : us.length ≤ 1000000) (hlt : ∀ u ∈ us, u < limit) (hk : (txtL base sep us).length < k) :
    addr_parts.f k (txtL base sep us) (sep.toNat : Int) (base : Int) (limit : Int) = some (us.map (fun u : Nat => (u : Int)), true) := by
  unfold addr_parts.f
  have := parts_list (txtL base sep us) sep base limit hb2 hb hl hsep us [] (k - (txtL base sep us).length - 1) 0 hus (by simp; exact hu) (by simp) hlt
  rw [show k - (txtL base sep us).length - 1 + (txtL base sep us).length + 1 = k by omega] at this
  rw [show ([-1] : List Int) = [] ++ [-1] from rfl, this]
  rfl
theorem rightB_iff (a : S_api_Addr) : rightB a = true ↔ isSz a.Size = true ∧ ∀ j, a.Size.toNat ≤ j → j < 16 → ar a.B j = 0 := by
  unfold rightB
  rw [Bool.and_eq_true, List.all_eq_true]
  refine and_congr_right fun _ => ⟨fun h j h1 h2 => ?_, fun h x hx => ?_⟩
  · have := h (ar a.B j) (by
      rw [List.mem_iff_getElem]
      refine ⟨j - a.Size.toNat, by rw [List.length_drop, arL_length]; omega, ?_⟩
      rw [List.getElem_drop]
      simp only [arL, List.getElem_map, List.getElem_range]
      congr 1; omega)
    simpa using this
  · obtain ⟨i, hi, rfl⟩ := List.mem_iff_getElem.1 hx
    rw [List.length_drop, arL_length] at hi
    rw [List.getElem_drop]
    simp only [arL, List.getElem_map, List.getElem_range, beq_iff_eq]
    exact h _ (by omega) (by omega)
theorem rightB_size {a : S_api_Addr} (h : rightB a = true) : a.Size = 0 ∨ a.Size = 4 ∨ a.Size = 16 := isSz_or (by unfold rightB at h; simp only [Bool.and_eq_true] at h; exact h.1)
theorem right4_B {a : S_api_Addr} (hr : rightB a = true) (h4 : a.Size = 4) (hl : a.B.length = 16) : a.B = [ar a.B 0, ar a.B 1, ar a.B 2, ar a.B 3, 0, 0, 0, 0, 0, 0, 0, 0, 0, 0, 0, 0] := by
  have hz := ((rightB_iff a).1 hr).2
  rw [h4] at hz
  have z : ∀ j, 4 ≤ j → j < 16 → ar a.B j = 0 := fun j h1 h2 => hz j (by simpa using h1) h2
  have e : arL 16 a.B = a.B := by have := arL_self a.B; rwa [hl] at this
  have e2 : arL 16 a.B = [ar a.B 0, ar a.B 1, ar a.B 2, ar a.B 3, ar a.B 4, ar a.B 5, ar a.B 6, ar a.B 7, ar a.B 8, ar a.B 9, ar a.B 10, ar a.B 11, ar a.B 12, ar a.B 13, ar a.B 14, ar a.B 15] := rfl
  rw [e] at e2
  conv => lhs; rw [e2]
  rw [z 4 (by decide) (by decide), z 5 (by decide) (by decide), z 6 (by decide) (by decide), z 7 (by decide) (by decide), z 8 (by decide) (by decide), z 9 (by decide) (by decide), z 10 (by decide) (by decide), z 11 (by decide) (by decide), z 12 (by decide) (by decide), z 13 (by decide) (by decide), z 14 (by decide) (by decide), z 15 (by decide) (by decide)]
def ns4 (l : List Int) : List Nat := [(ar l 0).toNat, (ar l 1).toNat, (ar l 2).toNat, (ar l 3).toNat]
theorem txt4_txtL (l : List Int) (hB : isB l) : txt4 l = txtL 10 46 (ns4 l) := by
  rw [txt4_eq, itoa_nat _ (ar_isB hB 0).1, itoa_nat _ (ar_isB hB 1).1, itoa_nat _ (ar_isB hB 2).1, itoa_nat _ (ar_isB hB 3).1, numD_dec, numD_dec, numD_dec, numD_dec]
  rfl
theorem txt4_len (l : List Int) (hB : isB l) : (txt4 l).length ≤ 1040 := by
  have len : ∀ i, (Lib.itoa (ar l i)).length ≤ 256 := fun i => by
    have := ar_isB hB i
    rw [itoa_nat _ this.1]
    have := dec_len (ar l i).toNat
    omega
  have l0 := len 0; have l1 := len 1; have l2 := len 2; have l3 := len 3
  rw [txt4_eq]
  simp only [List.length_append, List.length_cons]
  omega
theorem u8w (n : Int) (h : 0 ≤ n ∧ n ≤ 255) : IntKind.u8.wrap n = n := by rw [IntKind.wrap_u8]; omega
theorem read4_go (x0 x1 x2 x3 : Int) (h0 : 0 ≤ x0 ∧ x0 ≤ 255) (h1 : 0 ≤ x1 ∧ x1 ≤ 255) (h2 : 0 ≤ x2 ∧ x2 ≤ 255) (h3 : 0 ≤ x3 ∧ x3 ≤ 255) (k : Nat) :
    addr_read4.l0 ([x0, x1, x2, x3], true) (k + 5) 0 (List.replicate 16 (0 : Int)) = some (.inr [x0, x1, x2, x3, 0, 0, 0, 0, 0, 0, 0, 0, 0, 0, 0, 0]) := by
  have r0 : rd [x0, x1, x2, x3] 0 = x0 := rfl
  have r1 : rd [x0, x1, x2, x3] 1 = x1 := rfl
  have r2 : rd [x0, x1, x2, x3] 2 = x2 := rfl
  have r3 : rd [x0, x1, x2, x3] 3 = x3 := rfl
  have w1 : IntKind.i64.wrap (0 + 1) = 1 := by decide
  have w2 : IntKind.i64.wrap (1 + 1) = 2 := by decide
  have w3 : IntKind.i64.wrap (2 + 1) = 3 := by decide
  have w4 : IntKind.i64.wrap (3 + 1) = 4 := by decide
  rw [addr_read4.l0, if_pos (by simp), if_pos (by simp), r0, if_neg (by simp; omega), if_pos (by decide), w1, u8w _ h0,
    addr_read4.l0, if_pos (by simp), if_pos (by simp), r1, if_neg (by simp; omega), if_pos (by decide), w2, u8w _ h1,
    addr_read4.l0, if_pos (by simp), if_pos (by simp), r2, if_neg (by simp; omega), if_pos (by decide), w3, u8w _ h2,
    addr_read4.l0, if_pos (by simp), if_pos (by simp), r3, if_neg (by simp; omega), if_pos (by decide), w4, u8w _ h3,
    addr_read4.l0, if_neg (by simp)]
  rfl
theorem read4_ok (k : Nat) (a : S_api_Addr) (hr : rightB a = true) (h4 : a.Size = 4) (hB : isB a.B) (hl : a.B.length = 16) : addr_read4.f (k + 1100) (txt4 a.B) = some (a, true) := by
  have hlen := txt4_len a.B hB
  have b0 := ar_isB hB 0; have b1 := ar_isB hB 1; have b2 := ar_isB hB 2; have b3 := ar_isB hB 3
  unfold addr_read4.f
  rw [txt4_txtL _ hB] at hlen ⊢
  have hp := parts_f (k + 1100) 46 10 256 (by decide) (by decide) (by decide) (by decide) (ns4 a.B) (by simp [ns4]) (by simp [ns4]) (by simp [ns4]; omega) (by omega)
  have e46 : (((46 : UInt8).toNat : Nat) : Int) = 46 := rfl
  rw [e46] at hp
  have em : (ns4 a.B).map (fun u : Nat => (u : Int)) = [ar a.B 0, ar a.B 1, ar a.B 2, ar a.B 3] := by
    simp [ns4]; omega
  rw [em] at hp
  rw [show (10 : Int) = ((10 : Nat) : Int) from rfl, show (256 : Int) = ((256 : Nat) : Int) from rfl, hp, Option.bind_some, if_neg (by simp), show k + 1100 = (k + 1095) + 5 by omega, read4_go _ _ _ _ b0 b1 b2 b3, Option.bind_some]
  simp only
  rw [← right4_B hr h4 hl, ← h4]
theorem txt4_ne (l : List Int) (hB : isB l) : txt4 l ≠ [] := by
  rw [txt4_eq]
  intro h
  have := congrArg List.length h
  simp at this
/-! texts that are cut -/
def spl (c : UInt8) : List UInt8 → List (List UInt8)
  | [] => [[]]
  | x :: s => if x = c then [] :: spl c s else match spl c s with
    | [] => [[x]]
    | y :: ys => (x :: y) :: ys
theorem spl_free {c : UInt8} : ∀ {a : List UInt8}, c ∉ a → spl c a = [a]
  | [], _ => rfl
  | x :: a, h => by
    rw [spl, if_neg (fun e => h (by simp [e])), spl_free (fun hh => h (by simp [hh]))]
theorem spl_app {c : UInt8} : ∀ {a : List UInt8} (s : List UInt8), c ∉ a → spl c (a ++ c :: s) = a :: spl c s
  | [], s, _ => by rw [List.nil_append, spl, if_pos rfl]
  | x :: a, s, h => by
    rw [List.cons_append, spl, if_neg (fun e => h (by simp [e])), spl_app s (fun hh => h (by simp [hh]))]
theorem spl_pos (c : UInt8) (s : List UInt8) : ∃ y ys, spl c s = y :: ys := by
  cases s with
  | nil => exact ⟨_, _, rfl⟩
  | cons x s =>
    rw [spl]
    split
    · exact ⟨_, _, rfl⟩
    · split <;> exact ⟨_, _, rfl⟩
theorem index_free {c : UInt8} : ∀ {a : List UInt8}, c ∉ a → Lib.index a [c] = -1
  | [], _ => rfl
  | x :: a, h => by
    have h1 : ([c].isPrefixOf (x :: a)) = false := by
      simp [List.isPrefixOf]; exact fun e => h (by simp [e])
    unfold Lib.index
    rw [h1, index_free (fun hh => h (by simp [hh]))]; rfl
theorem index_app {c : UInt8} : ∀ {a : List UInt8} (s : List UInt8), c ∉ a → Lib.index (a ++ c :: s) [c] = a.length
  | [], s, _ => by
    unfold Lib.index; simp [List.isPrefixOf]
  | x :: a, s, h => by
    have h1 : ([c].isPrefixOf (x :: (a ++ c :: s))) = false := by
      simp [List.isPrefixOf]; exact fun e => h (by simp [e])
    rw [List.cons_append]
    unfold Lib.index
    rw [h1, index_app s (fun hh => h (by simp [hh]))]
    have : (((a.length : Nat) : Int) == -1) = false := by rw [beq_eq_false_iff_ne]; omega
    simp [this]
theorem cut_app {c : UInt8} {a : List UInt8} (s : List UInt8) (h : c ∉ a) : Lib.cut (a ++ c :: s) [c] = (a, s, true) := by
  unfold Lib.cut; rw [index_app s h, if_pos (by omega)]
  simp
theorem first_of (c : UInt8) : ∀ (s : List UInt8), c ∉ s ∨ ∃ a b, s = a ++ c :: b ∧ c ∉ a
  | [] => .inl (by simp)
  | x :: s => by
    by_cases e : x = c
    · exact .inr ⟨[], s, by simp [e], by simp⟩
    · rcases first_of c s with h | ⟨a, b, h1, h2⟩
      · exact .inl (by simp [h]; exact fun hh => e hh.symm)
      · exact .inr ⟨x :: a, b, by simp [h1], by simp [h2]; exact fun hh => e hh.symm⟩
/-- no two colons one behind the other, and none at the end -/
def noDbl : List UInt8 → Bool
  | [] => true
  | [x] => x != 58
  | x :: y :: r => !(x == 58 && y == 58) && noDbl (y :: r)
theorem dbl_index : ∀ (a s : List UInt8), noDbl a = true → Lib.index (a ++ 58 :: 58 :: s) [58, 58] = a.length
  | [], s, _ => by unfold Lib.index; simp [List.isPrefixOf]
  | [x], s, h => by
    have hx : x ≠ 58 := by simpa [noDbl] using h
    have h1 : ([58, 58].isPrefixOf (x :: 58 :: 58 :: s)) = false := by
      simp [List.isPrefixOf]; exact fun e => absurd e.symm hx
    have h2 := dbl_index [] s rfl
    rw [List.nil_append] at h2
    rw [List.cons_append, List.nil_append]
    unfold Lib.index
    rw [h1, h2]; rfl
  | x :: y :: r, s, h => by
    have hh : ¬ (x = 58 ∧ y = 58) ∧ noDbl (y :: r) = true := by
      rw [noDbl, Bool.and_eq_true] at h
      exact ⟨fun e => by simp [e.1, e.2] at h, h.2⟩
    have h1 : ([58, 58].isPrefixOf (x :: y :: (r ++ 58 :: 58 :: s))) = false := by
      simp [List.isPrefixOf]; exact fun e e2 => hh.1 ⟨e.symm, e2.symm⟩
    have h2 := dbl_index (y :: r) s hh.2
    rw [List.cons_append] at h2
    rw [List.cons_append, List.cons_append]
    unfold Lib.index
    rw [h1, h2]
    have : ((((y :: r).length : Nat) : Int) == -1) = false := by rw [beq_eq_false_iff_ne]; simp only [List.length_cons]; omega
    simp only [this]; rfl
theorem dbl_none : ∀ (a : List UInt8), noDbl a = true → Lib.index a [58, 58] = -1
  | [], _ => rfl
  | [x], h => by
    unfold Lib.index; simp [List.isPrefixOf, Lib.index]
  | x :: y :: r, h => by
    have hh : ¬ (x = 58 ∧ y = 58) ∧ noDbl (y :: r) = true := by
      rw [noDbl, Bool.and_eq_true] at h
      exact ⟨fun e => by simp [e.1, e.2] at h, h.2⟩
    have h1 : ([58, 58].isPrefixOf (x :: y :: r)) = false := by
      simp [List.isPrefixOf]; exact fun e e2 => hh.1 ⟨e.symm, e2.symm⟩
    unfold Lib.index
    rw [h1, dbl_none (y :: r) hh.2]; rfl
theorem dbl_cut (a s : List UInt8) (h : noDbl a = true) : Lib.cut (a ++ 58 :: 58 :: s) [58, 58] = (a, s, true) := by
  unfold Lib.cut; rw [dbl_index a s h, if_pos (by omega)]
  simp
theorem dbl_cut_none (a : List UInt8) (h : noDbl a = true) : Lib.cut a [58, 58] = (a, [], false) := by
  unfold Lib.cut; rw [dbl_none a h, if_neg (by decide)]
theorem noDbl_free : ∀ {a : List UInt8}, (58 : UInt8) ∉ a → noDbl a = true
  | [], _ => rfl
  | [x], h => by simp [noDbl]; exact fun e => h (by simp [e])
  | x :: y :: r, h => by
    have := noDbl_free (a := y :: r) (fun hh => h (by simp at hh ⊢; right; exact hh))
    have hx : x ≠ 58 := fun e => h (by simp [e])
    rw [noDbl, this]; simp [hx]
theorem noDbl_app : ∀ (a b : List UInt8), a ≠ [] → (58 : UInt8) ∉ a → b ≠ [] → b.head? ≠ some 58 → noDbl b = true → noDbl (a ++ 58 :: b) = true
  | [], _, h, _, _, _, _ => absurd rfl h
  | [x], b, _, hx, hb, h0, h => by
    obtain ⟨y, ys, rfl⟩ := List.exists_cons_of_ne_nil hb
    have h1 : y ≠ 58 := by simpa using h0
    have h2 : x ≠ 58 := fun e => hx (by simp [e])
    simp [noDbl, h1, h2, h]
  | x :: y :: r, b, _, hx, hb, h0, h => by
    have h2 : x ≠ 58 := fun e => hx (by simp [e])
    have := noDbl_app (y :: r) b (by simp) (fun hh => hx (by simp at hh ⊢; right; exact hh)) hb h0 h
    rw [List.cons_append] at this ⊢
    rw [List.cons_append]
    simp [noDbl, h2]
    simpa using this
/-! an address of sixteen bytes as a text -/
theorem or16 (x y : Int) (hx : 0 ≤ x ∧ x ≤ 255) (hy : 0 ≤ y ∧ y ≤ 255) : IntKind.i64.wrap (BitVec.ofInt IntKind.i64.bits (IntKind.i64.wrap ((IntKind.i64.wrap x) * 2 ^ (min (8 : Int).toNat IntKind.i64.bits))) ||| BitVec.ofInt IntKind.i64.bits (IntKind.i64.wrap y)).toNat = x * 256 + y := by
  rw [w64 x (by omega), or_step x y hx.1 (by omega) hy.1 hy.2, w64 _ (by omega)]
def n16 (l : List Int) (i : Nat) : Int := ar l (2 * i) * 256 + ar l (2 * i + 1)
def nums (l : List Int) : List Int := [n16 l 0, n16 l 1, n16 l 2, n16 l 3, n16 l 4, n16 l 5, n16 l 6, n16 l 7]
theorem n16_lt {l : List Int} (h : isB l) (i : Nat) : 0 ≤ n16 l i ∧ n16 l i < 65536 := by
  have h1 := ar_isB h (2 * i); have h2 := ar_isB h (2 * i + 1)
  unfold n16; omega
theorem numbers_step (a : S_api_Addr) (hB : isB a.B) (k i : Nat) (hi : i < 8) (x : List Int) : addr_numbers.l0 a (k + 1) (i : Int) x = addr_numbers.l0 a k ((i + 1 : Nat) : Int) ((arL 8 x).set i (n16 a.B i)) := by
  have e1 : IntKind.i64.wrap (2 * (i : Int)) = ((2 * i : Nat) : Int) := by rw [w64 _ (by omega)]; omega
  have e2 : IntKind.i64.wrap (((2 * i : Nat) : Int) + 1) = ((2 * i + 1 : Nat) : Int) := by rw [w64 _ (by omega)]; omega
  have e3 : IntKind.i64.wrap ((i : Int) + 1) = ((i + 1 : Nat) : Int) := by rw [w64 _ (by omega)]; omega
  rw [addr_numbers.l0, if_pos (by simp; omega), e1, e2, e3, if_pos (by omega), if_pos (by omega), if_pos (by omega), Int.toNat_natCast, Int.toNat_natCast, Int.toNat_natCast, or16 _ _ (ar_isB hB _) (ar_isB hB _)]
  rfl
theorem numbers_ok (k : Nat) (a : S_api_Addr) (hB : isB a.B) : addr_numbers.f (k + 20) a = some (nums a.B) := by
  unfold addr_numbers.f
  have s := fun k i hi x => numbers_step a hB k i hi x
  have s0 := s (k + 19) 0 (by decide)
  rw [show ((0 : Nat) : Int) = 0 from rfl] at s0
  rw [s0, s (k + 18) 1 (by decide), s (k + 17) 2 (by decide), s (k + 16) 3 (by decide), s (k + 15) 4 (by decide), s (k + 14) 5 (by decide), s (k + 13) 6 (by decide), s (k + 12) 7 (by decide), addr_numbers.l0, if_neg (by decide)]
  rfl
/-- how many zeros there are from a place on -/
def zr (ns : List Int) : Nat → Nat → Nat
  | 0, _ => 0
  | m + 1, p => if ar ns p = 0 then zr ns m (p + 1) + 1 else 0
theorem zr_le (ns : List Int) : ∀ m p, zr ns m p ≤ m
  | 0, _ => Nat.le_refl _
  | m + 1, p => by
    rw [zr]; split
    · have := zr_le ns m (p + 1); omega
    · omega
theorem zr_zero (ns : List Int) : ∀ m p j, j < zr ns m p → ar ns (p + j) = 0
  | 0, _, _, h => absurd h (Nat.not_lt_zero _)
  | m + 1, p, j, h => by
    rw [zr] at h; split at h
    · cases j with
      | zero => assumption
      | succ j => have := zr_zero ns m (p + 1) j (by omega); rwa [show p + 1 + j = p + (j + 1) by omega] at this
    · omega
theorem gap_l1 (ns : List Int) (i : Nat) : ∀ m n k, i + n + m = 8 → m < k → addr_gap.l1 ns (i : Int) k (n : Int) = some ((n + zr ns m (i + n) : Nat) : Int)
  | 0, n, k, h, hk => by
    obtain ⟨k, rfl⟩ : ∃ k', k = k' + 1 := ⟨k - 1, by omega⟩
    have e1 : IntKind.i64.wrap ((i : Int) + n) = 8 := by rw [w64 _ (by omega)]; omega
    rw [addr_gap.l1, e1, if_neg (by decide), Option.bind_some, if_neg (by decide)]; rfl
  | m + 1, n, k, h, hk => by
    obtain ⟨k, rfl⟩ : ∃ k', k = k' + 1 := ⟨k - 1, by omega⟩
    have e1 : IntKind.i64.wrap ((i : Int) + n) = ((i + n : Nat) : Int) := by rw [w64 _ (by omega)]; omega
    have e3 : IntKind.i64.wrap ((n : Int) + 1) = ((n + 1 : Nat) : Int) := by rw [w64 _ (by omega)]; omega
    rw [addr_gap.l1, e1, e3, if_pos (by simp; omega), if_pos (by omega), Option.bind_some, Int.toNat_natCast, zr]
    by_cases h0 : ar ns (i + n) = 0
    · rw [if_pos (by simpa using h0), if_pos h0, gap_l1 ns i m (n + 1) k (by omega) (by omega)]
      rw [show i + (n + 1) = i + n + 1 by omega]
      congr 1; omega
    · rw [if_neg (by simpa using h0), if_neg h0]; rfl
def gapGo (ns : List Int) : Nat → Nat → Nat × Nat → Nat × Nat
  | 0, _, g => g
  | m + 1, i, g => gapGo ns m (i + 1) (if g.2 < zr ns (8 - i) i then (i, zr ns (8 - i) i) else g)
def gapOf (ns : List Int) : Nat × Nat := gapGo ns 8 0 (0, 0)
theorem gap_l0 (K : Nat) (hK : 9 ≤ K) (ns : List Int) : ∀ (m i k : Nat) (g : Nat × Nat), i + m = 8 → m < k → addr_gap.l0 K ns k (g.1 : Int) (g.2 : Int) (i : Int) = some (((gapGo ns m i g).1 : Int), ((gapGo ns m i g).2 : Int))
  | 0, i, k, g, h, hk => by
    obtain ⟨k, rfl⟩ : ∃ k', k = k' + 1 := ⟨k - 1, by omega⟩
    rw [addr_gap.l0, if_neg (by simp; omega)]; rfl
  | m + 1, i, k, g, h, hk => by
    obtain ⟨k, rfl⟩ : ∃ k', k = k' + 1 := ⟨k - 1, by omega⟩
    have e3 : IntKind.i64.wrap ((i : Int) + 1) = ((i + 1 : Nat) : Int) := by rw [w64 _ (by omega)]; omega
    have h1 := gap_l1 ns i (8 - i) 0 K (by omega) (by omega)
    rw [Nat.add_zero, Nat.zero_add, show ((0 : Nat) : Int) = 0 from rfl] at h1
    rw [addr_gap.l0, if_pos (by simp; omega), h1, Option.bind_some, e3, gapGo]
    by_cases hg : g.2 < zr ns (8 - i) i
    · rw [if_pos (by simpa using hg), if_pos hg]
      exact gap_l0 K hK ns m (i + 1) k (i, zr ns (8 - i) i) (by omega) (by omega)
    · rw [if_neg (by simpa using hg), if_neg hg]
      exact gap_l0 K hK ns m (i + 1) k g (by omega) (by omega)
theorem gap_ok (k : Nat) (ns : List Int) : addr_gap.f (k + 20) ns = some (((gapOf ns).1 : Int), ((gapOf ns).2 : Int)) := by
  unfold addr_gap.f
  have := gap_l0 (k + 20) (by omega) ns 8 0 (k + 20) (0, 0) rfl (by omega)
  simp only [show ((0 : Nat) : Int) = 0 from rfl] at this
  rw [this]; rfl
theorem gapGo_ok (ns : List Int) : ∀ m i (g : Nat × Nat), i + m = 8 → (g.1 + g.2 ≤ 8 ∧ ∀ j, j < g.2 → ar ns (g.1 + j) = 0) → ((gapGo ns m i g).1 + (gapGo ns m i g).2 ≤ 8 ∧ ∀ j, j < (gapGo ns m i g).2 → ar ns ((gapGo ns m i g).1 + j) = 0)
  | 0, _, _, _, h => h
  | m + 1, i, g, hi, h => by
    rw [gapGo]
    refine gapGo_ok ns m (i + 1) _ (by omega) ?_
    split
    · have := zr_le ns (8 - i) i
      exact ⟨by simp only; omega, zr_zero ns (8 - i) i⟩
    · exact h
theorem gapOf_ok (ns : List Int) : (gapOf ns).1 + (gapOf ns).2 ≤ 8 ∧ ∀ j, j < (gapOf ns).2 → ar ns ((gapOf ns).1 + j) = 0 := gapGo_ok ns 8 0 (0, 0) rfl ⟨by decide, fun j h => absurd h (Nat.not_lt_zero _)⟩
/-- numbers in base 16, as the library writes them -/
theorem digs : ∀ d : Fin 16, ([48, 49, 50, 51, 52, 53, 54, 55, 56, 57, 97, 98, 99, 100, 101, 102, 103, 104, 105, 106, 107, 108, 109, 110, 111, 112, 113, 114, 115, 116, 117, 118, 119, 120, 121, 122] : List UInt8).getD d.val 0 = dgt d.val := by decide
theorem and15 (u : Nat) (hu : u < 65536) : IntKind.u64.wrap (BitVec.ofInt IntKind.u64.bits (u : Int) &&& BitVec.ofInt IntKind.u64.bits (IntKind.u64.wrap ((IntKind.u64.wrap 16) - (1 : Int)))).toNat = ((u % 16 : Nat) : Int) := by
  rw [BitVec.toNat_and, BitVec.toNat_ofInt, BitVec.toNat_ofInt]
  have e : IntKind.u64.bits = 64 := rfl
  have h1 : ((u : Int) % ((2 ^ 64 : Nat) : Int)).toNat = u := by omega
  have h2 : (IntKind.u64.wrap ((IntKind.u64.wrap 16) - (1 : Int)) % ((2 ^ 64 : Nat) : Int)).toNat = 2 ^ 4 - 1 := by decide
  rw [e, h1, h2, Nat.and_two_pow_sub_one_eq_mod, IntKind.wrap_u64]
  omega
theorem fb_stop (k u : Nat) (i : Int) (arr : List Int) (hu : u < 16) : strconv_formatBits.l0 16 4 (k + 1) (u : Int) i arr = some ((u : Int), i, arr) := by
  have e : IntKind.u64.wrap 16 = 16 := by decide
  rw [strconv_formatBits.l0, e, if_neg (by simp; omega)]
theorem fb_step (k u i : Nat) (arr : List Int) (hu : u < 65536) (h : 16 ≤ u) (hi : 1 ≤ i) (hi2 : i ≤ 65) :
    strconv_formatBits.l0 16 4 (k + 1) (u : Int) (i : Int) arr = strconv_formatBits.l0 16 4 k ((u / 16 : Nat) : Int) ((i - 1 : Nat) : Int) ((arL 65 arr).set (i - 1) ((dgt (u % 16)).toNat : Int)) := by
  have e : IntKind.u64.wrap 16 = 16 := by decide
  have e4 : IntKind.u64.wrap 4 = 4 := by decide
  have ei : IntKind.i64.wrap ((i : Int) - 1) = ((i - 1 : Nat) : Int) := by rw [w64 _ (by omega)]; omega
  have eu : Int.fdiv (u : Int) (2 ^ (min (Int.toNat 4) IntKind.u64.bits)) = ((u / 16 : Nat) : Int) := by
    have : ((2 : Int) ^ (min (Int.toNat 4) IntKind.u64.bits)) = 16 := rfl
    rw [this, Int.fdiv_eq_ediv_of_nonneg _ (by omega)]; omega
  have hd := digs ⟨u % 16, Nat.mod_lt _ (by decide)⟩
  simp only at hd
  rw [strconv_formatBits.l0, and15 u hu, ei, e4, eu, e, if_pos (by simp; omega), if_pos (by simp; omega), if_pos (by omega), if_pos (by omega), Int.toNat_natCast, Int.toNat_natCast, hd]
theorem set_drop (l : List Int) (i : Nat) (c : Int) (h : i < l.length) : (l.set i c).drop i = c :: l.drop (i + 1) := by
  rw [List.drop_eq_getElem_cons (by simpa using h)]
  simp [List.drop_set]
theorem arL65 {l : List Int} (h : l.length = 65) : arL 65 l = l := by have := arL_self l; rwa [h] at this
theorem ofDgt (d : Nat) : UInt8.ofNat (((dgt d).toNat : Int)).toNat = dgt d := by simp
theorem fb_all : ∀ (u k i : Nat) (arr : List Int), u < 65536 → arr.length = 65 → (numD 16 u).length ≤ i → i ≤ 65 → (numD 16 u).length ≤ k →
    ∃ (u' i' : Nat) (arr' : List Int), strconv_formatBits.l0 16 4 k (u : Int) (i : Int) arr = some ((u' : Int), (i' : Int), arr') ∧ u' < 16 ∧ 1 ≤ i' ∧ i' ≤ 65 ∧ arr'.length = 65 ∧ dgt u' :: b2s (arr'.drop i') = numD 16 u ++ b2s (arr.drop i) := by
  intro u
  induction u using Nat.strongRecOn with
  | ind u ih =>
    intro k i arr hu hl hi hi2 hk
    have h1 := numD_len (base := 16) (by decide) u
    obtain ⟨k, rfl⟩ : ∃ k', k = k' + 1 := ⟨k - 1, by omega⟩
    by_cases hs : u < 16
    · exact ⟨u, i, arr, fb_stop k u i arr hs, hs, by omega, hi2, hl, by rw [numD_small hs]; rfl⟩
    · have hb := numD_big (base := 16) (u := u) (by omega) (by decide)
      have hbl : (numD 16 u).length = (numD 16 (u / 16)).length + 1 := by rw [hb]; simp
      rw [fb_step k u i arr hu (by omega) (by omega) hi2, arL65 hl]
      obtain ⟨u', i', arr', h2, h3, h4, h5, h6, h7⟩ := ih (u / 16) (by omega) k (i - 1) (arr.set (i - 1) ((dgt (u % 16)).toNat : Int)) (by omega) (by simpa using hl) (by omega) (by omega) (by omega)
      refine ⟨u', i', arr', h2, h3, h4, h5, h6, ?_⟩
      rw [h7, set_drop _ _ _ (by omega), hb, show i - 1 + 1 = i by omega]
      simp only [b2s, List.map_cons, ofDgt, List.append_assoc, List.singleton_append]
theorem numD16_len (u : Nat) (h : u < 65536) : (numD 16 u).length ≤ 4 := by
  have n1 : ∀ v, v < 16 → (numD 16 v).length ≤ 1 := fun v hv => by rw [numD_small hv]; simp
  have step : ∀ v, (numD 16 v).length ≤ (numD 16 (v / 16)).length + 1 := fun v => by
    by_cases hv : v < 16
    · have := n1 v hv; omega
    · rw [numD_big (base := 16) (u := v) (by omega) (by decide)]; simp
  have a := step u; have b := step (u / 16); have c := step (u / 16 / 16); have d := n1 (u / 16 / 16 / 16) (by omega)
  omega
theorem hex_ok (k u : Nat) (h : u < 65536) : strconv_FormatInt_159.f (k + 80) (u : Int) 16 = some (numD 16 u) := by
  unfold strconv_FormatInt_159.f strconv_FormatInt.f strconv_formatBits.f
  have e0 : IntKind.u64.wrap (u : Int) = (u : Int) := by rw [IntKind.wrap_u64]; omega
  have p2 : strconv_isPowerOfTwo.f 16 = some true := by kernel_rfl
  have tz : bits_TrailingZeros.f (IntKind.u64.wrap 16) = some 4 := by kernel_rfl
  have hl := numD16_len u h
  obtain ⟨u', i', arr', h2, h3, h4, h5, h6, h7⟩ := fb_all u (k + 80) 65 (List.replicate 65 (0 : Int)) h (by simp) (by omega) (Nat.le_refl _) (by omega)
  have ei : IntKind.i64.wrap ((i' : Int) - 1) = ((i' - 1 : Nat) : Int) := by rw [w64 _ (by omega)]; omega
  have hd := digs ⟨u', h3⟩
  simp only at hd
  simp only [show ((65 : Nat) : Int) = 65 from rfl] at h2
  rw [if_neg (by decide), e0, if_neg (by decide), decide_eq_false (by omega : ¬ (u : Int) < 0), if_neg (by decide), Option.bind_some, p2, Option.bind_some, if_pos rfl, tz, Option.bind_some, h2, Option.bind_some]
  simp only [ei]
  rw [if_pos (by simp; omega), if_pos (by omega), Option.bind_some, if_neg (by decide), Option.bind_some, if_neg (by decide), Int.toNat_natCast, Int.toNat_natCast, hd]
  simp only [Int.toNat_natCast]
  rw [if_pos (by omega), Option.bind_some, Option.bind_some, arL65 h6, arL65 (by simpa using h6), List.take_of_length_le (by simp [h6]), set_drop _ _ _ (by omega), show i' - 1 + 1 = i' by omega]
  simp only [b2s, List.map_cons, ofDgt] at h7 ⊢
  rw [h7]
  simp
/-! written with colons -/
def hexs (ns : List Int) : List (List UInt8) := ns.map fun n => numD 16 n.toNat
def is16 (ns : List Int) : Prop := ∀ n ∈ ns, 0 ≤ n ∧ n < 65536
def wr (ns : List Int) : List UInt8 := txtL 16 58 (ns.map Int.toNat)
theorem join_txtL (base : Nat) (sep : UInt8) : ∀ us : List Nat, Lib.join (us.map (numD base)) [sep] = txtL base sep us
  | [] => rfl
  | [u] => by simp [Lib.join, List.intercalate, txtL]
  | u :: v :: us => by
    have := join_txtL base sep (v :: us)
    simp only [Lib.join, List.intercalate, List.map_cons] at this ⊢
    rw [txtL, ← this]
    simp [List.intersperse]
theorem join_wr (ns : List Int) : Lib.join (hexs ns) [58] = wr ns := by
  have := join_txtL 16 58 (ns.map Int.toNat)
  rw [List.map_map] at this
  exact this
theorem txt_len (base : Nat) (sep : UInt8) (b : Nat) : ∀ us : List Nat, (∀ u ∈ us, (numD base u).length ≤ b) → (txtL base sep us).length ≤ us.length * (b + 1)
  | [], _ => Nat.zero_le _
  | [u], h => by have := h u (by simp); simp only [txtL, List.length_singleton]; omega
  | u :: v :: us, h => by
    have h1 := h u (by simp)
    have h2 := txt_len base sep b (v :: us) (fun x hx => h x (by simp at hx ⊢; right; exact hx))
    simp only [txtL, List.length_append, List.length_cons] at h2 ⊢
    have : (us.length + 1 + 1) * (b + 1) = (us.length + 1) * (b + 1) + (b + 1) := by rw [Nat.add_mul]; omega
    omega
theorem wr_len (ns : List Int) (h : is16 ns) : (wr ns).length ≤ ns.length * 5 := by
  have := txt_len 16 58 4 (ns.map Int.toNat) (fun u hu => by
    obtain ⟨n, hn, rfl⟩ := List.mem_map.1 hu
    have := h n hn
    exact numD16_len _ (by omega))
  simpa [wr] using this
theorem written_go (K : Nat) (ns : List Int) (h : is16 ns) (hl : ns.length ≤ 100) : ∀ (m i k : Nat) (out : List (List UInt8)), i + m = ns.length → m < k → out.length ≤ i → addr_written.l0 (K + 80) ns k out (i : Int) = some (out ++ hexs (ns.drop i))
  | 0, i, k, out, hi, hk, _ => by
    obtain ⟨k, rfl⟩ : ∃ k', k = k' + 1 := ⟨k - 1, by omega⟩
    rw [addr_written.l0, if_neg (by simp; omega), List.drop_of_length_le (by omega)]
    simp [hexs]
  | m + 1, i, k, out, hi, hk, ho => by
    obtain ⟨k, rfl⟩ : ∃ k', k = k' + 1 := ⟨k - 1, by omega⟩
    have e3 : IntKind.i64.wrap ((i : Int) + 1) = ((i + 1 : Nat) : Int) := by rw [w64 _ (by omega)]; omega
    have hil : i < ns.length := by omega
    have hx := h ns[i] (List.getElem_mem hil)
    have hh := hex_ok K ns[i].toNat (by omega)
    rw [show ((ns[i].toNat : Nat) : Int) = ns[i] by omega] at hh
    rw [addr_written.l0, if_pos (by simp; omega), if_pos (by omega), rd_at _ _ hil, hh, Option.bind_some, if_pos (by simp; omega), e3, written_go K ns h hl m (i + 1) k _ (by omega) (by omega) (by simp; omega), List.drop_eq_getElem_cons hil]
    simp only [hexs, List.map_cons, List.append_assoc, List.singleton_append]
theorem written_ok (k : Nat) (ns : List Int) (h : is16 ns) (hl : ns.length ≤ 100) : addr_written.f (k + 120) ns = some (wr ns) := by
  unfold addr_written.f
  have := written_go (k + 40) ns h hl ns.length 0 (k + 40 + 80) [] (by omega) (by omega) (Nat.zero_le _)
  rw [show k + 40 + 80 = k + 120 by omega, show ((0 : Nat) : Int) = 0 from rfl, List.nil_append, List.drop_zero] at this
  rw [this, Option.bind_some]
  unfold strings_Join.f
  have h2 := wr_len ns h
  rw [join_wr, if_pos ⟨by simp [hexs]; omega, by omega⟩]; rfl
/-- the text of sixteen bytes -/
def txt6 (l : List Int) : List UInt8 :=
  let g := gapOf (nums l)
  if g.2 < 2 then wr (nums l) else wr ((nums l).take g.1) ++ 58 :: 58 :: wr ((nums l).drop (g.1 + g.2))
theorem nums16 {l : List Int} (h : isB l) : is16 (nums l) := by
  intro n hn
  simp only [nums, List.mem_cons, List.not_mem_nil, or_false] at hn
  rcases hn with rfl | rfl | rfl | rfl | rfl | rfl | rfl | rfl <;> exact n16_lt h _
theorem is16.sub {x y : List Int} (h : is16 x) (hs : ∀ n ∈ y, n ∈ x) : is16 y := fun n hn => h n (hs n hn)
theorem nums_len (l : List Int) : (nums l).length = 8 := rfl
theorem arL8n (l : List Int) : arL 8 (nums l) = nums l := by have := arL_self (nums l); rwa [nums_len] at this
theorem text6_ok (k : Nat) (a : S_api_Addr) (hB : isB a.B) : addr_text6.f (k + 120) a = some (txt6 a.B) := by
  unfold addr_text6.f
  have h1 := numbers_ok (k + 100) a hB
  have h2 := gap_ok (k + 100) (nums a.B)
  have h3 := gapOf_ok (nums a.B)
  have h16 := nums16 hB
  have ht : is16 ((nums a.B).take (gapOf (nums a.B)).1) := h16.sub fun n hn => List.mem_of_mem_take hn
  have hd : is16 ((nums a.B).drop ((gapOf (nums a.B)).1 + (gapOf (nums a.B)).2)) := h16.sub fun n hn => List.mem_of_mem_drop hn
  have l1 := wr_len _ ht
  have l2 := wr_len _ hd
  simp only [List.length_take, List.length_drop, nums_len] at l1 l2
  have e1 : IntKind.i64.wrap (((gapOf (nums a.B)).1 : Int) + ((gapOf (nums a.B)).2 : Int)) = (((gapOf (nums a.B)).1 + (gapOf (nums a.B)).2 : Nat) : Int) := by rw [w64 _ (by omega)]; omega
  rw [h1, Option.bind_some, h2, Option.bind_some, arL8n]
  simp only
  unfold txt6
  by_cases hg : (gapOf (nums a.B)).2 < 2
  · rw [if_pos (by simp; omega), if_pos hg, written_ok k _ h16 (by rw [nums_len]; decide)]; rfl
  · rw [if_neg (by simp; omega), if_neg hg, if_pos (by omega), Int.toNat_natCast, show Int.toNat 0 = 0 from rfl, List.drop_zero, written_ok k _ ht (by simp [nums_len]; omega), Option.bind_some, if_pos (by simp; omega), e1, if_pos (by omega), Int.toNat_natCast, List.take_of_length_le (by rw [nums_len]; decide), written_ok k _ hd (by simp [nums_len]; omega), Option.bind_some, if_pos (by simp; omega)]
    simp
theorem txt6_len {l : List Int} (hB : isB l) : (txt6 l).length ≤ 100 := by
  have h16 := nums16 hB
  have h3 := gapOf_ok (nums l)
  have ht : is16 ((nums l).take (gapOf (nums l)).1) := h16.sub fun n hn => List.mem_of_mem_take hn
  have hd : is16 ((nums l).drop ((gapOf (nums l)).1 + (gapOf (nums l)).2)) := h16.sub fun n hn => List.mem_of_mem_drop hn
  have l0 := wr_len _ h16
  have l1 := wr_len _ ht
  have l2 := wr_len _ hd
  simp only [List.length_take, List.length_drop, nums_len] at l0 l1 l2
  unfold txt6
  simp only
  by_cases hg : (gapOf (nums l)).2 < 2
  · rw [if_pos hg]; omega
  · rw [if_neg hg]; simp; omega
theorem numD_char {base : Nat} (hb : base ≤ 16) (hb2 : 2 ≤ base) : ∀ u, ∀ c ∈ numD base u, (48 ≤ c.toNat ∧ c.toNat ≤ 57) ∨ (97 ≤ c.toNat ∧ c.toNat ≤ 102) := by
  have one : ∀ d, d < 16 → (48 ≤ (dgt d).toNat ∧ (dgt d).toNat ≤ 57) ∨ (97 ≤ (dgt d).toNat ∧ (dgt d).toNat ≤ 102) := fun d hd => by
    rw [dgt_toNat hd]; split <;> omega
  intro u
  induction u using Nat.strongRecOn with
  | ind u ih =>
    intro c hc
    by_cases hs : u < base
    · rw [numD_small hs] at hc
      rw [List.mem_singleton.1 hc]; exact one u (by omega)
    · rw [numD_big (by omega) hb2] at hc
      rcases List.mem_append.1 hc with h | h
      · exact ih (u / base) (Nat.div_lt_self (by omega) (by omega)) c h
      · rw [List.mem_singleton.1 h]; exact one _ (by have := Nat.mod_lt u (show 0 < base by omega); omega)
theorem numD_free {base : Nat} (hb : base ≤ 16) (hb2 : 2 ≤ base) (u : Nat) (c : UInt8) (hc : c.toNat < 48 ∨ c.toNat = 58 ∨ 102 < c.toNat) : c ∉ numD base u := fun h => by
  have := numD_char hb hb2 u c h
  omega
theorem numD_ne {base : Nat} (hb2 : 2 ≤ base) (u : Nat) : numD base u ≠ [] := fun e => by
  have := numD_len hb2 u
  rw [e] at this; simp at this
theorem txtL_head {base : Nat} (hb : base ≤ 16) (hb2 : 2 ≤ base) (sep : UInt8) (c : UInt8) (hc : c.toNat < 48 ∨ c.toNat = 58 ∨ 102 < c.toNat) (u : Nat) (us : List Nat) : txtL base sep (u :: us) ≠ [] ∧ (txtL base sep (u :: us)).head? ≠ some c := by
  have h1 := numD_ne hb2 u
  have h2 := numD_free hb hb2 u c hc
  have key : ∀ r, (numD base u ++ r) ≠ [] ∧ (numD base u ++ r).head? ≠ some c := fun r => by
    obtain ⟨x, xs, e⟩ := List.exists_cons_of_ne_nil h1
    rw [e] at h2 ⊢
    exact ⟨by simp, by simp; exact fun e => h2 (by simp [e])⟩
  cases us with
  | nil => have := key []; rwa [List.append_nil] at this
  | cons v us => exact key _
theorem noDbl_wr : ∀ us : List Nat, noDbl (txtL 16 58 us) = true
  | [] => rfl
  | [u] => noDbl_free (numD_free (by decide) (by decide) u 58 (by decide))
  | u :: v :: us => by
    have h := txtL_head (base := 16) (by decide) (by decide) 58 58 (by decide) v us
    exact noDbl_app _ _ (numD_ne (by decide) u) (numD_free (by decide) (by decide) u 58 (by decide)) h.1 h.2 (noDbl_wr (v :: us))
/-! what parts says of any text -/
def curT (base : Nat) (v : Int) : List UInt8 := if v < 0 then [] else numD base v.toNat
def isHex (c : UInt8) : Prop := (48 ≤ c.toNat ∧ c.toNat ≤ 57) ∨ (97 ≤ c.toNat ∧ c.toNat ≤ 102)
theorem digV_some {c base d : Nat} (h : digV c base = some d) (hb : base ≤ 16) : d < base ∧ c = (if d < 10 then 48 + d else 87 + d) ∧ c < 128 ∧ ((48 ≤ c ∧ c ≤ 57) ∨ (97 ≤ c ∧ c ≤ 102)) := by
  unfold digV at h
  by_cases h1 : 48 ≤ c ∧ c ≤ 57
  · rw [if_pos h1] at h
    by_cases h2 : c - 48 < base
    · rw [if_pos h2] at h
      obtain rfl := Option.some.inj h
      refine ⟨h2, ?_, by omega, .inl h1⟩
      rw [if_pos (by omega)]; omega
    · rw [if_neg h2] at h; cases h
  · rw [if_neg h1] at h
    by_cases h3 : 97 ≤ c ∧ c ≤ 102
    · rw [if_pos h3] at h
      by_cases h2 : c - 87 < base
      · rw [if_pos h2] at h
        obtain rfl := Option.some.inj h
        refine ⟨h2, ?_, by omega, .inr h3⟩
        rw [if_neg (by omega)]; omega
      · rw [if_neg h2] at h; cases h
    · rw [if_neg h3] at h; cases h
theorem dec_low (s : List UInt8) (p : Nat) (h : p < s.length) (hc : (dec s p).1 < 128) : dec s p = ((s[p]).toNat, 1) ∧ (s[p]).toNat < 128 := by
  by_cases ha : (s[p]).toNat < 128
  · exact ⟨dec_ascii s p h ha, ha⟩
  · exact absurd (dec_high s p h (by omega)).1 (by omega)
theorem dgt_of {x : UInt8} {d : Nat} (hd : d < 16) (h : x.toNat = (if d < 10 then 48 + d else 87 + d)) : x = dgt d := UInt8.toNat_inj.1 (by rw [h, dgt_toNat hd])
theorem cur_next (base d : Nat) (v : Int) (hb2 : 2 ≤ base) (hd : d < base) (hv : -1 ≤ v) (h0 : v ≠ 0) : curT base (nextN v base d) = curT base v ++ [dgt d] := by
  unfold curT nextN
  by_cases h : v < 0
  · rw [if_pos h, if_neg (by simp [h]), if_pos h, show ((0 : Int) * base + d).toNat = d by omega, numD_small hd]; rfl
  · rw [if_neg h, if_neg h]
    obtain ⟨u, rfl⟩ := Int.eq_ofNat_of_zero_le (show 0 ≤ v by omega)
    have e : ((u : Int) * base + d) = ((u * base + d : Nat) : Int) := by push_cast; rfl
    have hu : 1 ≤ u := by omega
    have hge : base ≤ u * base := Nat.le_mul_of_pos_left base hu
    rw [e, if_neg (by omega), Int.toNat_natCast, Int.toNat_natCast, numD_big (by omega) hb2]
    have q1 : (u * base + d) / base = u := by rw [Nat.mul_comm, Nat.mul_add_div (by omega), Nat.div_eq_of_lt hd, Nat.add_zero]
    have q2 : (u * base + d) % base = d := by rw [Nat.mul_comm, Nat.mul_add_mod, Nat.mod_eq_of_lt hd]
    rw [q1, q2]
theorem drop_cons (s : List UInt8) (p : Nat) (h : p < s.length) : s.drop p = s[p] :: s.drop (p + 1) := List.drop_eq_getElem_cons h
theorem parts_inv (s : List UInt8) (sep : UInt8) (base limit : Nat) (hsep : sep.toNat < 128) (hb2 : 2 ≤ base) (hb : base ≤ 16) (hl : limit ≤ 65536) (hl0 : 1 ≤ limit) :
    ∀ (n k : Nat) (out : List Int) (v : Int) (p : Nat), s.length - p ≤ n → n < k → out.length + (s.length - p) ≤ 10000000 → -1 ≤ v → v < limit →
      ∃ r, addr_parts.l0 s (sep.toNat : Int) (base : Int) (limit : Int) k (out ++ [v]) p = some r ∧
        (r = .inl ([], false) ∨ ∃ (d : List Int) (x : Int) (p' : Nat), r = .inr (out ++ (d ++ [x]), p') ∧ d.length ≤ s.length - p ∧ (∀ y ∈ d ++ [x], -1 ≤ y ∧ y < limit) ∧
          (d = [] → curT base x = curT base v ++ s.drop p) ∧ ∀ c ∈ s.drop p, c = sep ∨ isHex c) := by
  intro n
  induction n with
  | zero =>
    intro k out v p hn hk ho hv hv2
    obtain ⟨k, rfl⟩ : ∃ k', k = k' + 1 := ⟨k - 1, by omega⟩
    have hd : s.drop p = [] := List.drop_of_length_le (by omega)
    refine ⟨.inr (out ++ [v], p), by rw [addr_parts.l0, if_neg (by omega)], .inr ⟨[], v, p, by simp, by simp, by simpa using ⟨hv, hv2⟩, fun _ => by rw [hd, List.append_nil], fun c hc => by rw [hd] at hc; cases hc⟩⟩
  | succ n ih =>
    intro k out v p hn hk ho hv hv2
    obtain ⟨k, rfl⟩ : ∃ k', k = k' + 1 := ⟨k - 1, by omega⟩
    by_cases hp : p < s.length
    · rw [parts_step s sep.toNat base limit hb hl k out v p hp (by omega) ⟨hv, by omega⟩ (by omega)]
      by_cases h1 : (dec s p).1 = sep.toNat
      · obtain ⟨q1, q2⟩ := dec_low s p hp (by omega)
        rw [if_pos h1, q1]
        have hs : s[p] = sep := UInt8.toNat_inj.1 (by rw [q1] at h1; exact h1)
        obtain ⟨r, hr, hx⟩ := ih k (out ++ [v]) (-1) (p + 1) (by omega) (by omega) (by simp; omega) (by omega) (by omega)
        refine ⟨r, hr, hx.imp id ?_⟩
        rintro ⟨d, x, p', e, hd, hy, _, hc⟩
        refine ⟨v :: d, x, p', by rw [e]; simp, by simp; omega, ?_, fun h => by simp at h, fun c hc' => ?_⟩
        · intro y hy'
          rcases List.mem_cons.1 (by simpa using hy' : y ∈ v :: (d ++ [x])) with rfl | h
          · exact ⟨hv, hv2⟩
          · exact hy y h
        · rw [drop_cons s p hp] at hc'
          rcases List.mem_cons.1 hc' with rfl | h
          · exact .inl hs
          · exact hc c h
      · rw [if_neg h1]
        cases hdv : digV (dec s p).1 base with
        | none => exact ⟨_, rfl, .inl rfl⟩
        | some d =>
          obtain ⟨g1, g2, g3, g4⟩ := digV_some hdv hb
          obtain ⟨q1, q2⟩ := dec_low s p hp g3
          simp only
          by_cases h2 : (limit : Int) ≤ nextN v base d ∨ v = 0
          · rw [if_pos h2]; exact ⟨_, rfl, .inl rfl⟩
          · rw [if_neg h2, q1]
            rw [q1] at g2 g4
            simp only at g2 g4
            have hv0 : v ≠ 0 := fun e => h2 (.inr e)
            have hlt : nextN v base d < limit := by
              by_cases h3 : (limit : Int) ≤ nextN v base d
              · exact absurd (.inl h3) h2
              · omega
            have hge : -1 ≤ nextN v base d := by
              have : 0 ≤ (if v < 0 then (0 : Int) else v) * base := Int.mul_nonneg (by split <;> omega) (by omega)
              unfold nextN; omega
            obtain ⟨r, hr, hx⟩ := ih k out (nextN v base d) (p + 1) (by omega) (by omega) (by omega) hge hlt
            refine ⟨r, hr, hx.imp id ?_⟩
            rintro ⟨d', x, p', e, hd, hy, ht, hc⟩
            refine ⟨d', x, p', e, by omega, hy, fun h => ?_, fun c hc' => ?_⟩
            · rw [ht h, cur_next base d v hb2 g1 hv hv0, drop_cons s p hp, dgt_of (by omega) g2]
              simp
            · rw [drop_cons s p hp] at hc'
              rcases List.mem_cons.1 hc' with rfl | h
              · exact .inr g4
              · exact hc c h
    · have hd : s.drop p = [] := List.drop_of_length_le (by omega)
      refine ⟨.inr (out ++ [v], p), by rw [addr_parts.l0, if_neg hp], .inr ⟨[], v, p, by simp, by simp, by simpa using ⟨hv, hv2⟩, fun _ => by rw [hd, List.append_nil], fun c hc => by rw [hd] at hc; cases hc⟩⟩
theorem parts_any (k : Nat) (s : List UInt8) (sep : UInt8) (base limit : Nat) (hsep : sep.toNat < 128) (hb2 : 2 ≤ base) (hb : base ≤ 16) (hl : limit ≤ 65536) (hl0 : 1 ≤ limit) (hs : s.length ≤ 10000000) (hk : s.length < k) :
    addr_parts.f k s (sep.toNat : Int) (base : Int) (limit : Int) = some ([], false) ∨ ∃ (d : List Int) (x : Int), addr_parts.f k s (sep.toNat : Int) (base : Int) (limit : Int) = some (d ++ [x], true) ∧ d.length ≤ s.length ∧ (∀ y ∈ d ++ [x], -1 ≤ y ∧ y < limit) ∧ (d = [] → curT base x = s) ∧ ∀ c ∈ s, c = sep ∨ isHex c := by
  obtain ⟨r, hr, hx⟩ := parts_inv s sep base limit hsep hb2 hb hl hl0 s.length k [] (-1) 0 (Nat.sub_le _ _) hk (by simp; omega) (by omega) (by omega)
  unfold addr_parts.f
  rw [List.nil_append] at hr
  rw [hr, Option.bind_some]
  rcases hx with rfl | ⟨d, x, p', rfl, h1, h2, h3, h4⟩
  · exact .inl rfl
  · refine .inr ⟨d, x, by simp, by omega, h2, fun e => ?_, by simpa using h4⟩
    have := h3 e
    simpa [curT] using this
/-! an address of sixteen bytes, read -/
theorem half_go (t : List Int × Bool) (hl : t.1.length ≤ 1000) : ∀ (m i k : Nat), i + m = t.1.length → m < k → ∃ r, addr_half.l0 t k (i : Int) = some r ∧ (r = .inl ([], false) ∧ (∃ y ∈ t.1.drop i, y < 0) ∨ r = .inr () ∧ ∀ y ∈ t.1.drop i, 0 ≤ y)
  | 0, i, k, hi, hk => by
    obtain ⟨k, rfl⟩ : ∃ k', k = k' + 1 := ⟨k - 1, by omega⟩
    refine ⟨.inr (), by rw [addr_half.l0, if_neg (by simp; omega)], .inr ⟨rfl, fun y hy => ?_⟩⟩
    rw [List.drop_of_length_le (by omega)] at hy; cases hy
  | m + 1, i, k, hi, hk => by
    obtain ⟨k, rfl⟩ : ∃ k', k = k' + 1 := ⟨k - 1, by omega⟩
    have hil : i < t.1.length := by omega
    have e3 : IntKind.i64.wrap ((i : Int) + 1) = ((i + 1 : Nat) : Int) := by rw [w64 _ (by omega)]; omega
    rw [addr_half.l0, if_pos (by simp; omega), if_pos (by omega), rd_at _ _ hil, e3, List.drop_eq_getElem_cons hil]
    by_cases h0 : t.1[i] < 0
    · rw [if_pos (by simpa using h0)]
      exact ⟨_, rfl, .inl ⟨rfl, _, List.mem_cons_self, h0⟩⟩
    · rw [if_neg (by simpa using h0)]
      obtain ⟨r, hr, hx⟩ := half_go t hl m (i + 1) k (by omega) (by omega)
      refine ⟨r, hr, hx.imp (fun ⟨h1, y, hy, hy0⟩ => ⟨h1, y, List.mem_cons_of_mem _ hy, hy0⟩) fun ⟨h1, h2⟩ => ⟨h1, fun y hy => ?_⟩⟩
      rcases List.mem_cons.1 hy with rfl | h
      · omega
      · exact h2 y h
theorem half_any (k : Nat) (s : List UInt8) (hs : s.length ≤ 10000000) (hk : s.length + 1000 < k) : ∃ l ok, addr_half.f k s = some (l, ok) ∧ (ok = false ∧ l = [] ∨ ok = true ∧ l.length ≤ 8 ∧ is16 l) := by
  unfold addr_half.f
  rw [bstr_toList, bstr_toList]
  by_cases h0 : s = []
  · rw [if_pos (by simpa using h0)]; exact ⟨_, _, rfl, .inr ⟨rfl, by simp, fun n h => nomatch h⟩⟩
  · rw [if_neg (by simpa using h0)]
    rcases parts_any k s 58 16 65536 (by decide) (by decide) (by decide) (by decide) (by decide) hs (by omega) with h | ⟨d, x, h, h1, h2, _, _⟩
    · rw [show (58 : Int) = (((58 : UInt8).toNat : Nat) : Int) from rfl, show (16 : Int) = ((16 : Nat) : Int) from rfl, show (65536 : Int) = ((65536 : Nat) : Int) from rfl, h, Option.bind_some, if_pos (by simp)]
      exact ⟨_, _, rfl, .inl ⟨rfl, rfl⟩⟩
    · rw [show (58 : Int) = (((58 : UInt8).toNat : Nat) : Int) from rfl, show (16 : Int) = ((16 : Nat) : Int) from rfl, show (65536 : Int) = ((65536 : Nat) : Int) from rfl, h, Option.bind_some]
      by_cases hl : 8 < (d ++ [x]).length
      · rw [if_pos (by simp at hl ⊢; omega)]
        exact ⟨_, _, rfl, .inl ⟨rfl, rfl⟩⟩
      · rw [if_neg (by simp at hl ⊢; omega)]
        obtain ⟨r, hr, hx⟩ := half_go (d ++ [x], true) (by simp at hl ⊢; omega) (d ++ [x]).length 0 k (by simp) (by simp at hl ⊢; omega)
        rw [show ((0 : Nat) : Int) = 0 from rfl] at hr
        rw [hr, Option.bind_some]
        rcases hx with ⟨rfl, _⟩ | ⟨rfl, h3⟩
        · exact ⟨_, _, rfl, .inl ⟨rfl, rfl⟩⟩
        · refine ⟨d ++ [x], true, rfl, .inr ⟨rfl, by omega, fun n hn => ?_⟩⟩
          have := h2 n hn; have := h3 n (by simpa using hn)
          omega
theorem is16_nat {ns : List Int} (h : is16 ns) : (ns.map Int.toNat).map (fun u : Nat => (u : Int)) = ns := by
  rw [List.map_map]
  conv => rhs; rw [← List.map_id ns]
  exact List.map_congr_left fun n hn => by have := h n hn; simp; omega
theorem half_ok (k : Nat) (ns : List Int) (h : is16 ns) (hl : ns.length ≤ 8) (hk : 1000 ≤ k) : addr_half.f k (wr ns) = some (ns, true) := by
  unfold addr_half.f
  rw [bstr_toList, bstr_toList]
  by_cases h0 : ns = []
  · subst h0; rw [if_pos (by decide)]
  · obtain ⟨x, xs, rfl⟩ := List.exists_cons_of_ne_nil h0
    have hne := (txtL_head (base := 16) (by decide) (by decide) 58 58 (by decide) x.toNat (xs.map Int.toNat)).1
    have hne' : wr (x :: xs) ≠ [] := hne
    rw [if_neg (by simpa using hne')]
    have hlen := wr_len (x :: xs) h
    have hp := parts_f k 58 16 65536 (by decide) (by decide) (by decide) (by decide) ((x :: xs).map Int.toNat) (by simp) (by simp at hl ⊢; omega) (fun u hu => by
      obtain ⟨n, hn, rfl⟩ := List.mem_map.1 hu
      have := h n hn; omega) (by unfold wr at hlen; omega)
    rw [is16_nat h] at hp
    rw [show (58 : Int) = (((58 : UInt8).toNat : Nat) : Int) from rfl, show (16 : Int) = ((16 : Nat) : Int) from rfl, show (65536 : Int) = ((65536 : Nat) : Int) from rfl]
    unfold wr
    rw [hp, Option.bind_some, if_neg (by simp at hl ⊢; omega)]
    obtain ⟨r, hr, hx⟩ := half_go (x :: xs, true) (by simp at hl ⊢; omega) (x :: xs).length 0 k (by simp) (by simp at hl ⊢; omega)
    rw [show ((0 : Nat) : Int) = 0 from rfl] at hr
    rw [hr, Option.bind_some]
    rcases hx with ⟨rfl, y, hy, hy0⟩ | ⟨rfl, h3⟩
    · have := h y (by simpa using hy); omega
    · rfl
/-- numbers put into sixteen bytes, from one on, so many -/
def putTo (b : List Int) (at_ : Nat) (l : List Int) (i : Nat) : List Int := (List.range 16).map fun j => if at_ ≤ j / 2 ∧ j / 2 < at_ + i then (if j % 2 = 0 then l.getD (j / 2 - at_) 0 / 256 else l.getD (j / 2 - at_) 0 % 256) else ar b j
theorem putTo_len (b : List Int) (a : Nat) (l : List Int) (i : Nat) : (putTo b a l i).length = 16 := by simp [putTo]
theorem putTo_ar (b : List Int) (a : Nat) (l : List Int) (i j : Nat) (hj : j < 16) : ar (putTo b a l i) j = if a ≤ j / 2 ∧ j / 2 < a + i then (if j % 2 = 0 then l.getD (j / 2 - a) 0 / 256 else l.getD (j / 2 - a) 0 % 256) else ar b j := by
  rw [ar_at _ _ (by rw [putTo_len]; exact hj)]
  simp [putTo]
theorem ar_ext {x y : List Int} (hx : x.length = 16) (hy : y.length = 16) (h : ∀ j, j < 16 → ar x j = ar y j) : x = y := by
  apply List.ext_getElem
  · omega
  · intro j h1 h2
    have := h j (by omega)
    rwa [ar_at _ _ h1, ar_at _ _ h2] at this
theorem arL16 {x : List Int} (hx : x.length = 16) : arL 16 x = x := by have := arL_self x; rwa [hx] at this
theorem ar_setD (x : List Int) (i j : Nat) (v : Int) (hi : i < x.length) : ar (x.set i v) j = if j = i then v else ar x j := by
  unfold ar
  simp only [List.getD_eq_getElem?_getD, List.getElem?_set]
  by_cases e : i = j
  · subst e; simp [hi]
  · simp [e]; exact fun hh => absurd hh.symm e
theorem u8_div (n : Int) (h : 0 ≤ n ∧ n < 65536) : IntKind.u8.wrap (Int.fdiv n (2 ^ (min (8 : Int).toNat IntKind.i64.bits))) = n / 256 ∧ IntKind.u8.wrap n = n % 256 := by
  have e : ((2 : Int) ^ (min (8 : Int).toNat IntKind.i64.bits)) = 256 := rfl
  rw [e, Int.fdiv_eq_ediv_of_nonneg _ (by omega), IntKind.wrap_u8, IntKind.wrap_u8]
  omega
theorem put_go (b : List Int) (a : Nat) (l : List Int) (h : is16 l) (ha : a + l.length ≤ 8) : ∀ (m i k : Nat) (x : List Int), i + m = l.length → m < k → x.length = 16 → x = putTo b a l i → addr_put6.l0 (a : Int) l k (i : Int) x = some (putTo b a l l.length)
  | 0, i, k, x, hi, hk, hx, e => by
    obtain ⟨k, rfl⟩ : ∃ k', k = k' + 1 := ⟨k - 1, by omega⟩
    rw [addr_put6.l0, if_neg (by simp; omega), e, show i = l.length by omega]
  | m + 1, i, k, x, hi, hk, hx, e => by
    obtain ⟨k, rfl⟩ : ∃ k', k = k' + 1 := ⟨k - 1, by omega⟩
    have hil : i < l.length := by omega
    have e0 : IntKind.i64.wrap ((a : Int) + i) = ((a + i : Nat) : Int) := by rw [w64 _ (by omega)]; omega
    have e1 : IntKind.i64.wrap (2 * ((a + i : Nat) : Int)) = ((2 * (a + i) : Nat) : Int) := by rw [w64 _ (by omega)]; omega
    have e2 : IntKind.i64.wrap (((2 * (a + i) : Nat) : Int) + 1) = ((2 * (a + i) + 1 : Nat) : Int) := by rw [w64 _ (by omega)]; omega
    have e3 : IntKind.i64.wrap ((i : Int) + 1) = ((i + 1 : Nat) : Int) := by rw [w64 _ (by omega)]; omega
    have hn := h l[i] (List.getElem_mem hil)
    rw [addr_put6.l0, if_pos (by simp; omega), if_pos (by omega), e0, e1, e2, e3, if_pos (by omega), if_pos (by omega), rd_at _ _ hil, (u8_div _ hn).1, (u8_div _ hn).2, Int.toNat_natCast, Int.toNat_natCast, arL16 hx, arL16 (by simpa using hx)]
    refine put_go b a l h ha m (i + 1) k _ (by omega) (by omega) (by simpa using hx) ?_
    refine ar_ext (by simpa using hx) (putTo_len _ _ _ _) fun j hj => ?_
    rw [ar_setD _ _ _ _ (by simp [hx]; omega), ar_setD _ _ _ _ (by omega), e, putTo_ar _ _ _ _ _ hj, putTo_ar _ _ _ _ _ hj]
    by_cases h1 : j = 2 * (a + i) + 1
    · rw [if_pos h1, if_pos (by omega), if_neg (by omega), show j / 2 - a = i by omega, List.getD_eq_getElem?_getD, List.getElem?_eq_getElem hil]; rfl
    · rw [if_neg h1]
      by_cases h2 : j = 2 * (a + i)
      · rw [if_pos h2, if_pos (by omega), if_pos (by omega), show j / 2 - a = i by omega, List.getD_eq_getElem?_getD, List.getElem?_eq_getElem hil]; rfl
      · rw [if_neg h2]
        by_cases h3 : a ≤ j / 2 ∧ j / 2 < a + i
        · have h4 : a ≤ j / 2 ∧ j / 2 < a + (i + 1) := by omega
          rw [if_pos h3, if_pos h4]
        · have h4 : ¬ (a ≤ j / 2 ∧ j / 2 < a + (i + 1)) := by omega
          rw [if_neg h3, if_neg h4]
theorem put6_ok (k : Nat) (x : S_api_Addr) (hx : x.B.length = 16) (a : Nat) (l : List Int) (h : is16 l) (ha : a + l.length ≤ 8) (hk : 20 ≤ k) : addr_put6.f k x (a : Int) l = some ⟨x.Size, putTo x.B a l l.length⟩ := by
  unfold addr_put6.f
  have := put_go x.B a l h ha l.length 0 k x.B (by omega) (by omega) hx (ar_ext hx (putTo_len _ _ _ _) fun j hj => by rw [putTo_ar _ _ _ _ _ hj, if_neg (by omega)])
  rw [show ((0 : Nat) : Int) = 0 from rfl] at this
  rw [this]; rfl
theorem putTo_isB {b : List Int} (hb : isB b) (a : Nat) (l : List Int) (h : is16 l) : isB (putTo b a l l.length) := by
  intro y hy
  obtain ⟨j, hj, rfl⟩ := List.mem_iff_getElem.1 hy
  rw [putTo_len] at hj
  rw [← ar_at _ _ (by rw [putTo_len]; exact hj), putTo_ar _ _ _ _ _ hj]
  split
  · rename_i hh
    have hil : j / 2 - a < l.length := by omega
    have hn := h l[j / 2 - a] (List.getElem_mem hil)
    rw [List.getD_eq_getElem?_getD, List.getElem?_eq_getElem hil]
    simp only [Option.getD_some]
    split <;> omega
  · exact ar_isB hb j
def join6 (l m : List Int) : List Int := putTo (putTo (List.replicate 16 0) 0 l l.length) (8 - m.length) m m.length
theorem zeros_isB : isB (List.replicate 16 (0 : Int)) := fun y hy => by rw [List.eq_of_mem_replicate hy]; decide
theorem join6_isB (l m : List Int) (hl : is16 l) (hm : is16 m) : isB (join6 l m) ∧ (join6 l m).length = 16 := ⟨putTo_isB (putTo_isB zeros_isB 0 l hl) _ m hm, putTo_len _ _ _ _⟩
theorem read6_cases (k : Nat) (s F G : List UInt8) (dbl : Bool) (l m : List Int) (o1 o2 : Bool) (hs : s.length < 4294967281) (hc : Lib.cut s [58, 58] = (F, G, dbl)) (h1 : addr_half.f k F = some (l, o1)) (h2 : addr_half.f k G = some (m, o2)) (hl : l.length ≤ 8) (hm : m.length ≤ 8) (il : is16 l) (im : is16 m) (hk : 20 ≤ k) :
    addr_read6.f k s = some (if o1 = false ∨ o2 = false ∨ 8 < l.length + m.length ∨ dbl = false ∧ l.length ≠ 8 then (⟨0, List.replicate 16 0⟩, false) else (⟨16, join6 l m⟩, true)) := by
  unfold addr_read6.f strings_Cut.f
  have e1 : IntKind.i64.wrap ((l.length : Int) + (m.length : Int)) = ((l.length + m.length : Nat) : Int) := by rw [w64 _ (by omega)]; omega
  have e2 : IntKind.i64.wrap ((8 : Int) - (m.length : Int)) = ((8 - m.length : Nat) : Int) := by rw [w64 _ (by omega)]; omega
  rw [if_pos hs, hc, Option.bind_some]
  simp only [h1, h2, Option.bind_some, e1, e2]
  by_cases g : o1 = false ∨ o2 = false ∨ 8 < l.length + m.length ∨ dbl = false ∧ l.length ≠ 8
  · rw [if_pos g, if_pos]
    rcases g with rfl | rfl | g | ⟨rfl, g⟩
    · simp
    · simp
    · have : decide (((l.length + m.length : Nat) : Int) > 8) = true := by simp only [decide_eq_true_eq]; omega
      rw [this]; simp
    · have : ((l.length : Int) != 8) = true := by simp; omega
      simp [this]
  · rw [if_neg g, if_neg]
    · have p1 := put6_ok k ⟨16, List.replicate 16 0⟩ (by simp) 0 l il (by omega) hk
      have p2 := put6_ok k ⟨16, putTo (List.replicate 16 0) 0 l l.length⟩ (putTo_len _ _ _ _) (8 - m.length) m im (by omega) hk
      rw [show ((0 : Nat) : Int) = 0 from rfl] at p1
      rw [p1, Option.bind_some, p2]; rfl
    · have g1 : o1 = true := by simpa using fun e => g (.inl e)
      have g2 : o2 = true := by simpa using fun e => g (.inr (.inl e))
      have g3 : ¬ 8 < l.length + m.length := fun e => g (.inr (.inr (.inl e)))
      have g4 : decide (((l.length + m.length : Nat) : Int) > 8) = false := by simp; omega
      rw [g1, g2, g4]
      cases hd : dbl with
      | true => simp
      | false =>
        have : l.length = 8 := Classical.not_not.1 fun e => g (.inr (.inr (.inr ⟨hd, e⟩)))
        simp [this]
theorem cut_le (s c : List UInt8) : (Lib.cut s c).1.length ≤ s.length ∧ (Lib.cut s c).2.1.length ≤ s.length := by
  unfold Lib.cut
  split <;> simp <;> omega
theorem read6_any (k : Nat) (s : List UInt8) (hs : s.length ≤ 10000000) (hk : s.length + 1000 < k) : ∃ a ok, addr_read6.f k s = some (a, ok) ∧ isB a.B ∧ a.B.length = 16 := by
  have hc := cut_le s [58, 58]
  obtain ⟨l, o1, h1, p1⟩ := half_any k (Lib.cut s [58, 58]).1 (by omega) (by omega)
  obtain ⟨m, o2, h2, p2⟩ := half_any k (Lib.cut s [58, 58]).2.1 (by omega) (by omega)
  have f1 : l.length ≤ 8 ∧ is16 l := by
    rcases p1 with ⟨_, rfl⟩ | ⟨_, h, h'⟩
    · exact ⟨by simp, fun n h => nomatch h⟩
    · exact ⟨h, h'⟩
  have f2 : m.length ≤ 8 ∧ is16 m := by
    rcases p2 with ⟨_, rfl⟩ | ⟨_, h, h'⟩
    · exact ⟨by simp, fun n h => nomatch h⟩
    · exact ⟨h, h'⟩
  have c := read6_cases k s _ _ (Lib.cut s [58, 58]).2.2 l m o1 o2 (by omega) rfl h1 h2 f1.1 f2.1 f1.2 f2.2 (by omega)
  by_cases g : o1 = false ∨ o2 = false ∨ 8 < l.length + m.length ∨ (Lib.cut s [58, 58]).2.2 = false ∧ l.length ≠ 8
  · rw [if_pos g] at c; exact ⟨_, _, c, zeros_isB, by simp⟩
  · rw [if_neg g] at c; exact ⟨_, _, c, join6_isB l m f1.2 f2.2⟩
theorem nums_getD (l : List Int) (i : Nat) (h : i < 8) : (nums l).getD i 0 = n16 l i := by
  rcases (show i = 0 ∨ i = 1 ∨ i = 2 ∨ i = 3 ∨ i = 4 ∨ i = 5 ∨ i = 6 ∨ i = 7 by omega) with rfl | rfl | rfl | rfl | rfl | rfl | rfl | rfl <;> rfl
theorem n16_back {l : List Int} (h : isB l) (j : Nat) : (if j % 2 = 0 then n16 l (j / 2) / 256 else n16 l (j / 2) % 256) = ar l j := by
  have h1 := ar_isB h (2 * (j / 2)); have h2 := ar_isB h (2 * (j / 2) + 1)
  unfold n16
  by_cases e : j % 2 = 0
  · rw [if_pos e]
    have : ar l (2 * (j / 2)) = ar l j := by rw [show 2 * (j / 2) = j by omega]
    omega
  · rw [if_neg e]
    have : ar l (2 * (j / 2) + 1) = ar l j := by rw [show 2 * (j / 2) + 1 = j by omega]
    omega
theorem join6_ok {l : List Int} (hB : isB l) (hl : l.length = 16) (f t : Nat) (hf : f ≤ t) (ht : t ≤ 8) (hz : ∀ i, f ≤ i → i < t → n16 l i = 0) : join6 ((nums l).take f) ((nums l).drop t) = l := by
  have l1 : ((nums l).take f).length = f := by rw [List.length_take, nums_len]; omega
  have l2 : ((nums l).drop t).length = 8 - t := by rw [List.length_drop, nums_len]
  unfold join6
  rw [l1, l2]
  refine ar_ext (putTo_len _ _ _ _) hl fun j hj => ?_
  rw [putTo_ar _ _ _ _ _ hj]
  by_cases h1 : t ≤ j / 2
  · rw [if_pos (by omega), show j / 2 - (8 - (8 - t)) = j / 2 - t by omega, List.getD_eq_getElem?_getD, List.getElem?_drop, show t + (j / 2 - t) = j / 2 by omega, ← List.getD_eq_getElem?_getD, nums_getD _ _ (by omega)]
    exact n16_back hB j
  · rw [if_neg (by omega), putTo_ar _ _ _ _ _ hj]
    by_cases h2 : j / 2 < f
    · rw [if_pos (by omega), Nat.sub_zero, List.getD_eq_getElem?_getD, List.getElem?_take, if_pos h2, ← List.getD_eq_getElem?_getD, nums_getD _ _ (by omega)]
      exact n16_back hB j
    · rw [if_neg (by omega)]
      have h0 := hz (j / 2) (by omega) (by omega)
      have := n16_back hB j
      rw [h0] at this
      rw [← this]
      have : ar (List.replicate 16 (0 : Int)) j = 0 := by rw [ar_at _ _ (by rw [List.length_replicate]; exact hj)]; exact List.getElem_replicate _
      rw [this]; split <;> rfl
theorem ar_nums (l : List Int) (i : Nat) (h : i < 8) : ar (nums l) i = n16 l i := nums_getD l i h
theorem read6_ok (k : Nat) (l : List Int) (hB : isB l) (hl : l.length = 16) (hk : 1000 ≤ k) : addr_read6.f k (txt6 l) = some (⟨16, l⟩, true) := by
  have h16 := nums16 hB
  have h3 := gapOf_ok (nums l)
  have ht : is16 ((nums l).take (gapOf (nums l)).1) := h16.sub fun n hn => List.mem_of_mem_take hn
  have hd : is16 ((nums l).drop ((gapOf (nums l)).1 + (gapOf (nums l)).2)) := h16.sub fun n hn => List.mem_of_mem_drop hn
  have hlen := txt6_len hB
  by_cases hg : (gapOf (nums l)).2 < 2
  · have e : txt6 l = wr (nums l) := by unfold txt6; simp only; rw [if_pos hg]
    rw [e] at hlen ⊢
    have c := read6_cases k (wr (nums l)) (wr (nums l)) [] false (nums l) [] true true (by omega) (dbl_cut_none _ (noDbl_wr _)) (half_ok k _ h16 (by rw [nums_len]; decide) hk) (half_ok k [] (fun n h => nomatch h) (by simp) hk) (by rw [nums_len]; decide) (by simp) h16 (fun n h => nomatch h) (by omega)
    rw [c, if_neg (by rw [nums_len]; decide)]
    have := join6_ok hB hl 8 8 (by decide) (by decide) (fun i h1 h2 => by omega)
    rw [List.take_of_length_le (by rw [nums_len]; decide), List.drop_of_length_le (by rw [nums_len]; decide)] at this
    rw [this]
  · have e : txt6 l = wr ((nums l).take (gapOf (nums l)).1) ++ 58 :: 58 :: wr ((nums l).drop ((gapOf (nums l)).1 + (gapOf (nums l)).2)) := by unfold txt6; simp only; rw [if_neg hg]
    rw [e] at hlen ⊢
    have c := read6_cases k (wr ((nums l).take (gapOf (nums l)).1) ++ 58 :: 58 :: wr ((nums l).drop ((gapOf (nums l)).1 + (gapOf (nums l)).2))) (wr ((nums l).take (gapOf (nums l)).1)) (wr ((nums l).drop ((gapOf (nums l)).1 + (gapOf (nums l)).2))) true ((nums l).take (gapOf (nums l)).1) ((nums l).drop ((gapOf (nums l)).1 + (gapOf (nums l)).2)) true true (by omega) (dbl_cut _ _ (noDbl_wr _)) (half_ok k _ ht (by rw [List.length_take, nums_len]; omega) hk) (half_ok k _ hd (by rw [List.length_drop, nums_len]; omega) hk) (by rw [List.length_take, nums_len]; omega) (by rw [List.length_drop, nums_len]; omega) ht hd (by omega)
    have hlen2 : ¬ 8 < ((nums l).take (gapOf (nums l)).1).length + ((nums l).drop ((gapOf (nums l)).1 + (gapOf (nums l)).2)).length := by rw [List.length_take, List.length_drop, nums_len]; omega
    rw [c, if_neg (by simp only [Bool.true_eq_false, false_or, false_and, or_false]; exact hlen2)]
    rw [join6_ok hB hl _ _ (by omega) h3.1 (fun i h1 h2 => by
      have := h3.2 (i - (gapOf (nums l)).1) (by omega)
      rw [show (gapOf (nums l)).1 + (i - (gapOf (nums l)).1) = i by omega, ar_nums _ _ (by omega)] at this
      exact this)]
/-! texts and addresses -/
def adrB (a : S_api_Addr) : Prop := isB a.B ∧ a.B.length = 16
theorem read4_l0 (x0 x1 x2 x3 : Int) (h0 : -1 ≤ x0 ∧ x0 < 256) (h1 : -1 ≤ x1 ∧ x1 < 256) (h2 : -1 ≤ x2 ∧ x2 < 256) (h3 : -1 ≤ x3 ∧ x3 < 256) (k : Nat) :
    addr_read4.l0 ([x0, x1, x2, x3], true) (k + 5) 0 (List.replicate 16 (0 : Int)) = some (.inl (⟨0, List.replicate 16 0⟩, false)) ∨ addr_read4.l0 ([x0, x1, x2, x3], true) (k + 5) 0 (List.replicate 16 (0 : Int)) = some (.inr [x0, x1, x2, x3, 0, 0, 0, 0, 0, 0, 0, 0, 0, 0, 0, 0]) ∧ isB [x0, x1, x2, x3, 0, 0, 0, 0, 0, 0, 0, 0, 0, 0, 0, 0] := by
  have r0 : rd [x0, x1, x2, x3] 0 = x0 := rfl
  have r1 : rd [x0, x1, x2, x3] 1 = x1 := rfl
  have r2 : rd [x0, x1, x2, x3] 2 = x2 := rfl
  have r3 : rd [x0, x1, x2, x3] 3 = x3 := rfl
  have w1 : IntKind.i64.wrap (0 + 1) = 1 := by decide
  have w2 : IntKind.i64.wrap (1 + 1) = 2 := by decide
  have w3 : IntKind.i64.wrap (2 + 1) = 3 := by decide
  by_cases g0 : x0 < 0
  · left; rw [addr_read4.l0, if_pos (by simp), if_pos (by simp), r0, if_pos (by simpa using g0)]
  · by_cases g1 : x1 < 0
    · left; rw [addr_read4.l0, if_pos (by simp), if_pos (by simp), r0, if_neg (by simp; omega), if_pos (by decide), w1,
        addr_read4.l0, if_pos (by simp), if_pos (by simp), r1, if_pos (by simpa using g1)]
    · by_cases g2 : x2 < 0
      · left; rw [addr_read4.l0, if_pos (by simp), if_pos (by simp), r0, if_neg (by simp; omega), if_pos (by decide), w1,
          addr_read4.l0, if_pos (by simp), if_pos (by simp), r1, if_neg (by simp; omega), if_pos (by decide), w2,
          addr_read4.l0, if_pos (by simp), if_pos (by simp), r2, if_pos (by simpa using g2)]
      · by_cases g3 : x3 < 0
        · left; rw [addr_read4.l0, if_pos (by simp), if_pos (by simp), r0, if_neg (by simp; omega), if_pos (by decide), w1,
            addr_read4.l0, if_pos (by simp), if_pos (by simp), r1, if_neg (by simp; omega), if_pos (by decide), w2,
            addr_read4.l0, if_pos (by simp), if_pos (by simp), r2, if_neg (by simp; omega), if_pos (by decide), w3,
            addr_read4.l0, if_pos (by simp), if_pos (by simp), r3, if_pos (by simpa using g3)]
        · right
          refine ⟨read4_go x0 x1 x2 x3 (by omega) (by omega) (by omega) (by omega) k, fun y hy => ?_⟩
          simp only [List.mem_cons, List.not_mem_nil, or_false] at hy
          omega
theorem four_of {l : List Int} (h : l.length = 4) : ∃ x0 x1 x2 x3, l = [x0, x1, x2, x3] := by
  match l, h with
  | [x0, x1, x2, x3], _ => exact ⟨x0, x1, x2, x3, rfl⟩
theorem read4_any (k : Nat) (s : List UInt8) (hs : s.length ≤ 10000000) (hk : s.length + 1000 < k) : ∃ a ok, addr_read4.f k s = some (a, ok) ∧ adrB a ∧ ((58 : UInt8) ∈ s → ok = false) := by
  unfold addr_read4.f
  have hz : adrB ⟨0, List.replicate 16 0⟩ := ⟨zeros_isB, by simp⟩
  rw [show (46 : Int) = (((46 : UInt8).toNat : Nat) : Int) from rfl, show (10 : Int) = ((10 : Nat) : Int) from rfl, show (256 : Int) = ((256 : Nat) : Int) from rfl]
  rcases parts_any k s 46 10 256 (by decide) (by decide) (by decide) (by decide) (by decide) hs (by omega) with h | ⟨d, x, h, h1, h2, _, h4⟩
  · rw [h, Option.bind_some, if_pos (by simp)]
    exact ⟨_, _, rfl, hz, fun _ => rfl⟩
  · rw [h, Option.bind_some]
    have hno : (58 : UInt8) ∉ s := fun hm => by
      rcases h4 58 hm with e | e | e
      · exact absurd e (by decide)
      · exact absurd e.2 (by decide)
      · exact absurd e.1 (by decide)
    by_cases hl : (d ++ [x]).length = 4
    · rw [if_neg (by simp at hl; simp [hl])]
      obtain ⟨x0, x1, x2, x3, e⟩ := four_of hl
      rw [e] at h2 ⊢
      obtain ⟨k, rfl⟩ : ∃ k', k = k' + 5 := ⟨k - 5, by omega⟩
      rcases read4_l0 x0 x1 x2 x3 (h2 _ (by simp)) (h2 _ (by simp)) (h2 _ (by simp)) (h2 _ (by simp)) k with q | ⟨q, qb⟩
      · rw [q, Option.bind_some]; exact ⟨_, _, rfl, hz, fun hm => absurd hm hno⟩
      · rw [q, Option.bind_some]; exact ⟨_, _, rfl, ⟨qb, rfl⟩, fun hm => absurd hm hno⟩
    · rw [if_pos (by simp at hl; simp; omega)]
      exact ⟨_, _, rfl, hz, fun _ => rfl⟩
def textA (a : S_api_Addr) : List UInt8 := if rightB a = true then (if a.Size = 4 then txt4 a.B else if a.Size = 16 then txt6 a.B else []) else []
theorem text_any (k : Nat) (a : S_api_Addr) (h : adrB a) (hk : 200 ≤ k) : addr_Text.f k a = some (textA a) := by
  unfold textA
  by_cases hr : rightB a = true
  · rw [if_pos hr]
    by_cases h4 : a.Size = 4
    · rw [if_pos h4]
      obtain ⟨k, rfl⟩ : ∃ k', k = k' + 20 := ⟨k - 20, by omega⟩
      exact text4_ok k a hr h4 h.1
    · rw [if_neg h4]
      unfold addr_Text.f
      obtain ⟨k, rfl⟩ : ∃ k', k = k' + 120 := ⟨k - 120, by omega⟩
      have r := right_ok (k + 100) a
      rw [show k + 100 + 20 = k + 120 by omega] at r
      rw [r, hr, Option.bind_some, if_neg (by simp), if_neg (by simpa using h4)]
      by_cases h16 : a.Size = 16
      · rw [if_pos (by simpa using h16), if_pos h16, text6_ok k a h.1]; rfl
      · rw [if_neg (by simpa using h16), if_neg h16]
  · rw [if_neg hr]
    unfold addr_Text.f
    obtain ⟨k, rfl⟩ : ∃ k', k = k' + 20 := ⟨k - 20, by omega⟩
    have : rightB a = false := by simpa using hr
    rw [right_ok, this, Option.bind_some, if_pos (by simp)]
theorem txt6_colon (l : List Int) : (58 : UInt8) ∈ txt6 l := by
  unfold txt6
  simp only
  by_cases hg : (gapOf (nums l)).2 < 2
  · rw [if_pos hg]; unfold wr nums; simp [txtL]
  · rw [if_neg hg]; simp
theorem textA_len (a : S_api_Addr) (h : adrB a) : (textA a).length ≤ 1040 := by
  unfold textA
  split
  · split
    · exact txt4_len _ h.1
    · split
      · have := txt6_len h.1; omega
      · simp
  · simp
theorem right0 {a : S_api_Addr} (h : adrB a) (hr : rightB a = true) (h0 : a.Size = 0) : a = ⟨0, List.replicate 16 0⟩ := by
  have hz := ((rightB_iff a).1 hr).2
  have : a.B = List.replicate 16 0 := ar_ext h.2 (by simp) fun j hj => by
    rw [hz j (by rw [h0]; exact Nat.zero_le _) hj, ar_at _ _ (by rw [List.length_replicate]; exact hj)]; exact (List.getElem_replicate _).symm
  cases a
  simp only at h0 this
  rw [h0, this]
theorem parse_text (k : Nat) (a : S_api_Addr) (h : adrB a) (hr : rightB a = true) (hk : 3000 ≤ k) : addr_Parse.f k (textA a) = some (a, 0) := by
  have ht := text_any k a h (by omega)
  have hs := rightB_size hr
  have hl := textA_len a h
  unfold addr_Parse.f
  rw [bstr_toList, bstr_toList]
  rcases hs with h0 | h4 | h16
  · have e : textA a = [] := by unfold textA; rw [if_pos hr, if_neg (by omega), if_neg (by omega)]
    rw [e, if_pos (by decide)]
    rw [← right0 h hr h0]
  · have e : textA a = txt4 a.B := by unfold textA; rw [if_pos hr, if_pos h4]
    rw [e] at ht ⊢
    obtain ⟨k, rfl⟩ : ∃ k', k = k' + 1100 := ⟨k - 1100, by omega⟩
    rw [if_neg (by simpa using txt4_ne a.B h.1), read4_ok k a hr h4 h.1 h.2, Option.bind_some, if_neg (by simp), Option.bind_some]
    simp only
    rw [if_neg (by simp), ht, Option.bind_some, Option.bind_some, bstr_toList]
    simp
  · have e : textA a = txt6 a.B := by unfold textA; rw [if_pos hr, if_neg (by omega), if_pos h16]
    have hc := txt6_colon a.B
    rw [e] at ht hl ⊢
    have hne : txt6 a.B ≠ [] := fun e => by rw [e] at hc; cases hc
    obtain ⟨b, ok, q1, _, q2⟩ := read4_any k (txt6 a.B) (by omega) (by omega)
    have q2 := q2 hc
    subst q2
    rw [if_neg (by simpa using hne), q1, Option.bind_some, if_pos (by simp), read6_ok k a.B h.1 h.2 (by omega), Option.bind_some, Option.bind_some]
    simp only
    rw [← h16] at *
    rw [if_neg (by simp), ht, Option.bind_some, Option.bind_some, bstr_toList]
    simp
theorem parse_any (k : Nat) (s : List UInt8) (hs : s.length ≤ 10000000) (hk : s.length + 3000 < k) : ∃ a e, addr_Parse.f k s = some (a, e) ∧ adrB a ∧ (e = 0 ∧ textA a = s ∧ rightB a = true ∨ e = 4 ∧ a = ⟨0, List.replicate 16 0⟩ ∧ s ≠ []) := by
  have hz : adrB ⟨0, List.replicate 16 0⟩ := ⟨zeros_isB, by simp⟩
  unfold addr_Parse.f
  rw [bstr_toList, bstr_toList]
  by_cases h0 : s = []
  · subst h0
    rw [if_pos (by decide)]
    refine ⟨_, _, rfl, hz, .inl ⟨rfl, ?_, ?_⟩⟩
    · unfold textA; rw [if_pos (by decide), if_neg (by decide), if_neg (by decide)]
    · decide
  · rw [if_neg (by simpa using h0)]
    obtain ⟨a, o1, q1, z1, _⟩ := read4_any k s hs (by omega)
    obtain ⟨b, o2, q2, z2⟩ := read6_any k s hs (by omega)
    rw [q1, Option.bind_some]
    have fin : ∀ (c : S_api_Addr) (o : Bool), adrB c → ∃ a e, ((if (!o) = true then some (true : Bool) else (addr_Text.f k (⟨c.Size, c.B⟩ : S_api_Addr)).bind fun t33 => some (!((bstr t33).toList == s) : Bool))).bind (fun s24 => (if s24 = true then some (((⟨(0 : Int), (List.replicate 16 (0 : Int))⟩ : S_api_Addr) : S_api_Addr), ((4 : Int) : Int)) else some (((⟨c.Size, c.B⟩ : S_api_Addr) : S_api_Addr), ((0 : Int) : Int)))) = some (a, e) ∧ adrB a ∧ (e = 0 ∧ textA a = s ∧ rightB a = true ∨ e = 4 ∧ a = ⟨0, List.replicate 16 0⟩ ∧ s ≠ []) := by
      intro c o hc
      cases o with
      | false => rw [if_pos (by simp), Option.bind_some, if_pos rfl]; exact ⟨_, _, rfl, hz, .inr ⟨rfl, rfl, h0⟩⟩
      | true =>
        rw [if_neg (by simp), text_any k c hc (by omega), Option.bind_some, Option.bind_some, bstr_toList]
        by_cases e : textA c = s
        · rw [if_neg (by simpa using e)]
          refine ⟨_, _, rfl, hc, .inl ⟨rfl, e, ?_⟩⟩
          by_cases hr : rightB c = true
          · exact hr
          · unfold textA at e; rw [if_neg hr] at e; exact absurd e.symm h0
        · rw [if_pos (by simpa using e)]; exact ⟨_, _, rfl, hz, .inr ⟨rfl, rfl, h0⟩⟩
    cases o1 with
    | false => rw [if_pos (by simp), q2, Option.bind_some, Option.bind_some]; exact fin b o2 z2
    | true => rw [if_neg (by simp), Option.bind_some]; exact fin a true z1
end Go.E
namespace Go.E
/-! distinguishers and their texts -/
theorem parts_back {d : List Int} (hd : d.length = 8) (hB : isB d) (h : (partsR d).2.2.2 = true) :
    hiS (partsR d).1 ≠ 0 ∧ fits (partsR d).1 (partsR d).2.1 (partsR d).2.2.1 = true ∧ rdL (partsR d).1 (partsR d).2.1 (partsR d).2.2.1 = d := by
  unfold partsR at h ⊢
  generalize hk : numL (d.take 2) 0 = kind at *
  by_cases hz : hiS kind = 0
  · rw [if_pos hz] at h; exact absurd h (by simp)
  · rw [if_neg hz]
    have hs := hs_of hz
    have sub : ∀ (x : List Int), (∀ y ∈ x, y ∈ d) → ∀ y ∈ x, 0 ≤ y ∧ y ≤ 255 := fun x hx y hy => hB y (hx y hy)
    have lh : ((d.drop 2).take (hiS kind)).length = hiS kind := by rw [List.length_take, List.length_drop]; omega
    have ll : (d.drop (2 + hiS kind)).length = loS kind := by rw [List.length_drop]; unfold loS; omega
    have p1 := put_num (d.take 2) (by rw [List.length_take]; omega) (by rw [List.length_take]; omega) (sub _ fun y hy => List.mem_of_mem_take hy)
    have p2 := put_num ((d.drop 2).take (hiS kind)) (by omega) (by omega) (sub _ fun y hy => List.mem_of_mem_drop (List.mem_of_mem_take hy))
    have p3 := put_num (d.drop (2 + hiS kind)) (by omega) (by omega) (sub _ fun y hy => List.mem_of_mem_drop hy)
    rw [lh] at p2; rw [ll] at p3
    rw [show (d.take 2).length = 2 by rw [List.length_take]; omega, hk] at p1
    refine ⟨hz, ?_, ?_⟩
    · unfold fits
      simp only [Bool.and_eq_true, decide_eq_true_eq]
      exact ⟨p2.1, p2.2.1, p3.1, p3.2.1⟩
    · unfold rdL
      simp only
      rw [p1.2.2, p2.2.2, p3.2.2, ← List.drop_drop, List.append_assoc, List.take_append_drop, List.take_append_drop]
def hex8 : List Int → List UInt8
  | [] => []
  | b :: bs => dgt (b.toNat / 16) :: dgt (b.toNat % 16) :: hex8 bs
def textD (d : List Int) : List UInt8 := if (partsR d).2.2.2 = true then textR (partsR d).1 (partsR d).2.1 (partsR d).2.2.1 else 63 :: 58 :: hex8 d
theorem digs16 : ∀ d : Fin 16, ([48, 49, 50, 51, 52, 53, 54, 55, 56, 57, 97, 98, 99, 100, 101, 102] : List UInt8).getD d.val 0 = dgt d.val := by decide
theorem and_15 (x : Int) (hx : 0 ≤ x ∧ x ≤ 255) : IntKind.u8.wrap (BitVec.ofInt IntKind.u8.bits x &&& BitVec.ofInt IntKind.u8.bits (15 : Int)).toNat = ((x.toNat % 16 : Nat) : Int) := by
  rw [BitVec.toNat_and, BitVec.toNat_ofInt, BitVec.toNat_ofInt]
  have e : IntKind.u8.bits = 8 := rfl
  have h1 : (x % ((2 ^ 8 : Nat) : Int)).toNat = x.toNat := by
    have : ((2 ^ 8 : Nat) : Int) = 256 := rfl
    omega
  have h2 : ((15 : Int) % ((2 ^ 8 : Nat) : Int)).toNat = 2 ^ 4 - 1 := by decide
  rw [e, h1, h2, Nat.and_two_pow_sub_one_eq_mod, IntKind.wrap_u8]
  omega
theorem text_l0 (d : List Int) (hd : d.length = 8) (hB : isB d) : ∀ (m i k : Nat) (out : List Int), i + m = 8 → m < k → out.length ≤ 2 + 2 * i → ∃ r, rd_Text.l0 d k out (i : Int) = some r ∧ b2s r = b2s out ++ hex8 (d.drop i)
  | 0, i, k, out, hi, hk, ho => by
    obtain ⟨k, rfl⟩ : ∃ k', k = k' + 1 := ⟨k - 1, by omega⟩
    exact ⟨out, by rw [rd_Text.l0, if_neg (by simp; omega)], by rw [List.drop_of_length_le (by omega)]; simp [hex8]⟩
  | m + 1, i, k, out, hi, hk, ho => by
    obtain ⟨k, rfl⟩ : ∃ k', k = k' + 1 := ⟨k - 1, by omega⟩
    have hb := ar_isB hB i
    have hil : i < d.length := by omega
    have e3 : IntKind.i64.wrap ((i : Int) + 1) = ((i + 1 : Nat) : Int) := by rw [w64 _ (by omega)]; omega
    have es : Int.fdiv (ar d i) (2 ^ (min (4 : Int).toNat IntKind.u8.bits)) = (((ar d i).toNat / 16 : Nat) : Int) := by
      have : ((2 : Int) ^ (min (4 : Int).toNat IntKind.u8.bits)) = 16 := rfl
      rw [this, Int.fdiv_eq_ediv_of_nonneg _ (by omega)]; omega
    have g1 := digs16 ⟨(ar d i).toNat / 16, by omega⟩
    have g2 := digs16 ⟨(ar d i).toNat % 16, by omega⟩
    simp only at g1 g2
    rw [rd_Text.l0, if_pos (by simp; omega), if_pos (by omega), Int.toNat_natCast, es, and_15 _ hb, e3, Int.toNat_natCast, Int.toNat_natCast, if_pos (by simp; omega), if_pos (by simp; omega), g1, g2, if_pos (by simp; omega)]
    obtain ⟨r, h1, h2⟩ := text_l0 d hd hB m (i + 1) k (out ++ [((dgt ((ar d i).toNat / 16)).toNat : Int), ((dgt ((ar d i).toNat % 16)).toNat : Int)]) (by omega) (by omega) (by simp; omega)
    refine ⟨r, h1, ?_⟩
    rw [h2, List.drop_eq_getElem_cons hil, ar_at _ _ hil]
    simp [b2s, hex8, List.map_append]
theorem textd_ok (k : Nat) (d : List Int) (hd : d.length = 8) (hB : isB d) (hk : 20 ≤ k) : rd_Text.f k d = some (textD d) := by
  obtain ⟨k, rfl⟩ : ∃ k', k = k' + 20 := ⟨k - 20, by omega⟩
  unfold textD
  by_cases h : (partsR d).2.2.2 = true
  · rw [if_pos h]
    obtain ⟨h1, h2, h3⟩ := parts_back hd hB h
    have := text_ok k h1 h2
    rwa [h3] at this
  · rw [if_neg h]
    have h' : (partsR d).2.2.2 = false := by simpa using h
    unfold rd_Text.f
    rw [parts_ok k d hd, Option.bind_some, h', if_pos (by simp)]
    obtain ⟨r, h1, h2⟩ := text_l0 d hd hB 8 0 (k + 20) [63, 58] rfl (by omega) (by simp)
    rw [show ((0 : Nat) : Int) = 0 from rfl] at h1
    rw [h1, Option.bind_some, h2, List.drop_zero]; rfl
/-! read back -/
def shl4 (x : Int) (c : Nat) : Int := IntKind.u8.wrap (BitVec.ofInt IntKind.u8.bits (IntKind.u8.wrap (x * 2 ^ (min (4 : Int).toNat IntKind.u8.bits))) ||| BitVec.ofInt IntKind.u8.bits (IntKind.u8.wrap (c : Int))).toNat
theorem shl4_0 : ∀ c : Fin 16, shl4 0 c.val = c.val := by decide
theorem shl4_d : ∀ x : Fin 16, ∀ c : Fin 16, shl4 (x.val : Int) c.val = ((16 * x.val + c.val : Nat) : Int) := by decide
theorem arL8e {x : List Int} (h : x.length = 8) : arL 8 x = x := by have := arL_self x; rwa [h] at this
theorem tdiv2 (p : Nat) (h : p ≤ 1000000000000) : IntKind.i64.wrap (Int.tdiv (p : Int) 2) = ((p / 2 : Nat) : Int) := by
  rw [show Int.tdiv (p : Int) 2 = ((p / 2 : Nat) : Int) from rfl, w64 _ (by omega)]
theorem ite_ind {α : Sort _} {c : Prop} [Decidable c] {a b : α} (P : α → Prop) (h1 : P a) (h2 : P b) : P (if c then a else b) := by
  by_cases h : c
  · rw [if_pos h]; exact h1
  · rw [if_neg h]; exact h2
theorem isB_rep (n : Nat) : isB (List.replicate n 0) := fun y hy => by rw [List.eq_of_mem_replicate hy]; decide
theorem strange_any (s : List UInt8) (hs : s.length ≤ 10000000) : ∀ (n p k : Nat) (x : List Int), s.length - p ≤ n → n < k → x.length = 8 → isB x → ∃ r, rd_strange.l0 s k x p = some r ∧ ((∃ q, r = .inl q ∧ q.length = 8 ∧ isB q) ∨ ∃ q p', r = .inr (q, p') ∧ q.length = 8 ∧ isB q) := by
  intro n
  induction n with
  | zero =>
    intro p k x hn hk hx hb
    obtain ⟨k, rfl⟩ : ∃ k', k = k' + 1 := ⟨k - 1, by omega⟩
    exact ⟨.inr (x, p), by rw [rd_strange.l0, if_neg (by omega)], .inr ⟨x, p, rfl, hx, hb⟩⟩
  | succ n ih =>
    intro p k x hn hk hx hb
    obtain ⟨k, rfl⟩ : ∃ k', k = k' + 1 := ⟨k - 1, by omega⟩
    by_cases hp : p < s.length
    · have hz : isB [(0 : Int), 0, 0, 0, 0, 0, 0, 0] := isB_rep 8
      have hpos := dec_pos s p hp
      rw [rd_strange.l0, if_pos hp]
      obtain ⟨c, hc⟩ : ∃ c : Int, ((if (decide (((dec s p).1 : Int) ≥ (97 : Int))) = true then some (IntKind.i32.wrap ((IntKind.i32.wrap (((dec s p).1 : Int) - (97 : Int))) + (10 : Int)) : Int) else some (IntKind.i32.wrap (((dec s p).1 : Int) - (48 : Int)) : Int))) = some c := ite_ind (P := fun z => ∃ c : Int, z = some c) ⟨_, rfl⟩ ⟨_, rfl⟩
      rw [hc, Option.bind_some, tdiv2 p (by omega)]
      by_cases g : 0 ≤ c ∧ c ≤ 15 ∧ p < 16
      · rw [decide_eq_false (by omega : ¬ c < 0), decide_eq_false (by omega : ¬ c > 15), decide_eq_false (by omega : ¬ (p : Int) ≥ 16), if_neg (by simp), if_pos (by omega), if_pos (by omega), arL8e hx, Int.toNat_natCast]
        refine ih _ k _ (by omega) (by omega) (by simpa using hx) fun y hy => ?_
        rcases List.mem_or_eq_of_mem_set hy with hy | rfl
        · exact hb y hy
        · rw [IntKind.wrap_u8]; omega
      · rw [if_pos]
        · exact ⟨_, rfl, .inl ⟨_, rfl, rfl, hz⟩⟩
        · by_cases g1 : c < 0
          · simp [g1]
          · by_cases g2 : c > 15
            · simp [g2]
            · rw [decide_eq_true (show (p : Int) ≥ 16 by omega), ite_self]
    · exact ⟨.inr (x, p), by rw [rd_strange.l0, if_neg hp], .inr ⟨x, p, rfl, hx, hb⟩⟩
theorem strangef_any (k : Nat) (s : List UInt8) (hs : s.length ≤ 10000000) (hk : s.length < k) : ∃ d, rd_strange.f k s = some d ∧ d.length = 8 ∧ isB d := by
  unfold rd_strange.f
  obtain ⟨r, hr, hx⟩ := strange_any s hs s.length 0 k (List.replicate 8 0) (by omega) hk (by simp) (isB_rep 8)
  rw [hr, Option.bind_some]
  rcases hx with ⟨q, rfl, h1, h2⟩ | ⟨q, p', rfl, h1, h2⟩
  · exact ⟨q, rfl, h1, h2⟩
  · exact ⟨q, rfl, h1, h2⟩
theorem strange_step (s : List UInt8) (p k : Nat) (x : List Int) (hx : x.length = 8) (c : Nat) (hc : c < 16) (hp : p < 16) (rest : List UInt8) (h : s.drop p = dgt c :: rest) :
    rd_strange.l0 s (k + 1) x p = rd_strange.l0 s k (x.set (p / 2) (shl4 (ar x (p / 2)) c)) (p + 1) := by
  have hpl : p < s.length := by
    have := congrArg List.length h
    rw [List.length_drop, List.length_cons] at this
    omega
  have hcc : s[p] = dgt c := by
    have := congrArg (fun l => l[0]?) h
    simp only [List.getElem?_drop, Nat.add_zero, List.getElem?_cons_zero] at this
    rw [List.getElem?_eq_getElem hpl] at this
    exact Option.some.inj this
  have hdn := dgt_toNat hc
  have hdec : dec s p = ((dgt c).toNat, 1) := by
    rw [dec_ascii s p hpl (by rw [hcc, hdn]; split <;> omega), hcc]
  have ec : ((if (decide (((dgt c).toNat : Int) ≥ (97 : Int))) = true then some (IntKind.i32.wrap ((IntKind.i32.wrap (((dgt c).toNat : Int) - (97 : Int))) + (10 : Int)) : Int) else some (IntKind.i32.wrap (((dgt c).toNat : Int) - (48 : Int)) : Int))) = some (c : Int) := by
    rw [hdn]
    by_cases h1 : c < 10
    · rw [if_pos h1, if_neg (by simp; omega), w32 _ (by omega)]; congr 1; omega
    · rw [if_neg h1, if_pos (by simp; omega), w32 (((87 + c : Nat) : Int) - 97) (by omega), w32 _ (by omega)]; congr 1; omega
  rw [rd_strange.l0, if_pos hpl, hdec]
  simp only
  rw [ec, Option.bind_some, tdiv2 p (by omega), decide_eq_false (by omega : ¬ (c : Int) < 0), decide_eq_false (by omega : ¬ (c : Int) > 15), decide_eq_false (by omega : ¬ (p : Int) ≥ 16), if_neg (by simp), if_pos (by omega), if_pos (by omega), arL8e hx, Int.toNat_natCast]
  rfl
theorem strange_two (s : List UInt8) (i k : Nat) (x : List Int) (hx : x.length = 8) (b : Int) (hb : 0 ≤ b ∧ b ≤ 255) (hi : i < 8) (h0 : ar x i = 0) (rest : List UInt8) (h : s.drop (2 * i) = dgt (b.toNat / 16) :: dgt (b.toNat % 16) :: rest) :
    rd_strange.l0 s (k + 2) x (2 * i) = rd_strange.l0 s k (x.set i b) (2 * i + 2) := by
  have h2 : s.drop (2 * i + 1) = dgt (b.toNat % 16) :: rest := by
    have := congrArg (List.drop 1) h
    rw [List.drop_drop] at this
    exact this
  have q0 := shl4_0 ⟨b.toNat / 16, by omega⟩
  have q1 := shl4_d ⟨b.toNat / 16, by omega⟩ ⟨b.toNat % 16, by omega⟩
  simp only at q0 q1
  rw [strange_step s (2 * i) (k + 1) x hx (b.toNat / 16) (by omega) (by omega) _ h, show 2 * i / 2 = i by omega, h0, q0,
    strange_step s (2 * i + 1) k _ (by simpa using hx) (b.toNat % 16) (by omega) (by omega) _ h2, show (2 * i + 1) / 2 = i by omega]
  have ea : ar (x.set i ((b.toNat / 16 : Nat) : Int)) i = ((b.toNat / 16 : Nat) : Int) := by rw [ar_setD _ _ _ _ (by omega), if_pos rfl]
  rw [ea, q1, List.set_set, show ((16 * (b.toNat / 16) + b.toNat % 16 : Nat) : Int) = b by omega]
theorem strange_go (s : List UInt8) (d : List Int) (hd : d.length = 8) (hB : isB d) : ∀ (m i k : Nat), i + m = 8 → s.drop (2 * i) = hex8 (d.drop i) → 2 * m < k → rd_strange.l0 s k (d.take i ++ List.replicate m 0) (2 * i) = some (.inr (d, 16))
  | 0, i, k, hi, hs, hk => by
    obtain ⟨k, rfl⟩ : ∃ k', k = k' + 1 := ⟨k - 1, by omega⟩
    have hl : s.length ≤ 2 * i := by
      rw [List.drop_of_length_le (show d.length ≤ i by omega)] at hs
      have := congrArg List.length hs
      rw [List.length_drop] at this
      simp [hex8] at this
      omega
    rw [rd_strange.l0, if_neg (by omega), List.take_of_length_le (by omega), show 2 * i = 16 by omega]
    simp
  | m + 1, i, k, hi, hs, hk => by
    obtain ⟨k, rfl⟩ : ∃ k', k = k' + 2 := ⟨k - 2, by omega⟩
    have hil : i < d.length := by omega
    have hb := hB d[i] (List.getElem_mem hil)
    have lt : (d.take i).length = i := by rw [List.length_take]; omega
    rw [List.drop_eq_getElem_cons hil, hex8] at hs
    rw [strange_two s i k _ (by simp [lt]; omega) d[i] hb (by omega) (by unfold ar; rw [List.getD_eq_getElem?_getD, List.getElem?_append_right (by omega), lt, Nat.sub_self]; simp) _ hs]
    have e : (d.take i ++ List.replicate (m + 1) (0 : Int)).set i d[i] = d.take (i + 1) ++ List.replicate m 0 := by
      rw [List.set_append_right _ _ (by omega), lt, Nat.sub_self, List.replicate_succ, List.set_cons_zero, List.take_add_one, List.getElem?_eq_getElem hil, List.append_assoc]
      rfl
    rw [e, show 2 * i + 2 = 2 * (i + 1) by omega]
    refine strange_go s d hd hB m (i + 1) k (by omega) ?_ (by omega)
    have := congrArg (List.drop 2) hs
    rw [List.drop_drop] at this
    exact this
theorem strange_ok (k : Nat) (d : List Int) (hd : d.length = 8) (hB : isB d) (hk : 20 ≤ k) : rd_strange.f k (hex8 d) = some d := by
  unfold rd_strange.f
  have := strange_go (hex8 d) d hd hB 8 0 k rfl (by simp) (by omega)
  simp only [List.take_zero, List.nil_append, Nat.mul_zero] at this
  rw [this]; rfl
theorem number_any (k : Nat) (s : List UInt8) (hs : s.length ≤ 10000000) (hk : s.length < k) : ∃ n b, rd_number.f k s = some (n, b) := by
  unfold rd_number.f
  have go : ∀ (n p k : Nat) (x : Int), s.length - p ≤ n → n < k → ∃ r, rd_number.l0 s k x p = some r := by
    intro n
    induction n with
    | zero =>
      intro p k x hn hk
      obtain ⟨k, rfl⟩ : ∃ k', k = k' + 1 := ⟨k - 1, by omega⟩
      exact ⟨.inr (x, p), by rw [rd_number.l0, if_neg (by omega)]⟩
    | succ n ih =>
      intro p k x hn hk
      obtain ⟨k, rfl⟩ : ∃ k', k = k' + 1 := ⟨k - 1, by omega⟩
      by_cases hp : p < s.length
      · have hpos := dec_pos s p hp
        rw [rd_number.l0, if_pos hp]
        exact ite_ind (P := fun z => ∃ r, z = some r) ⟨_, rfl⟩ (ih _ k _ (by omega) (by omega))
      · exact ⟨.inr (x, p), by rw [rd_number.l0, if_neg hp]⟩
  obtain ⟨r, hr⟩ := go s.length 0 k 0 (by omega) hk
  rw [hr, Option.bind_some]
  rcases r with ⟨n, b⟩ | ⟨n, p⟩ <;> exact ⟨_, _, rfl⟩
theorem number_go (s : List UInt8) : ∀ (u k p : Nat) (rest : List UInt8), s.drop p = numD 10 u ++ rest → u < 1000000000000 → p + (numD 10 u).length ≤ 10 →
    rd_number.l0 s (k + (numD 10 u).length) 0 p = rd_number.l0 s k (u : Int) (p + (numD 10 u).length) := by
  have one : ∀ (x d p k : Nat) (rest : List UInt8), x < 1000000000000 → d < 10 → p < 10 → s.drop p = dgt d :: rest → rd_number.l0 s (k + 1) (x : Int) p = rd_number.l0 s k ((x * 10 + d : Nat) : Int) (p + 1) := by
    intro x d p k rest hx hd hp h
    have hpl : p < s.length := by
      have := congrArg List.length h
      rw [List.length_drop, List.length_cons] at this
      omega
    have hcc : s[p] = dgt d := by
      have := congrArg (fun l => l[0]?) h
      simp only [List.getElem?_drop, Nat.add_zero, List.getElem?_cons_zero] at this
      rw [List.getElem?_eq_getElem hpl] at this
      exact Option.some.inj this
    have hdn := dgt_toNat (d := d) (by omega)
    rw [if_pos hd] at hdn
    have hdec : dec s p = (48 + d, 1) := by
      rw [dec_ascii s p hpl (by rw [hcc, hdn]; omega), hcc, hdn]
    rw [rd_number.l0, if_pos hpl, hdec]
    simp only
    rw [decide_eq_false (by omega : ¬ ((48 + d : Nat) : Int) < 48), decide_eq_false (by omega : ¬ ((48 + d : Nat) : Int) > 57), decide_eq_false (by omega : ¬ (p : Int) ≥ 10), if_neg (by simp), w32 _ (by omega), w64 (((48 + d : Nat) : Int) - 48) (by omega), w64 ((10 : Int) * x) (by omega), w64 _ (by omega)]
    congr 1; omega
  intro u
  induction u using Nat.strongRecOn with
  | ind u ih =>
    intro k p rest hsd hu hp
    by_cases hsm : u < 10
    · rw [numD_small hsm] at hsd hp ⊢
      have := one 0 u p k rest (by decide) hsm (by simp at hp; omega) hsd
      simpa using this
    · have hbig := numD_big (base := 10) (u := u) (by omega) (by decide)
      rw [hbig] at hsd hp ⊢
      rw [List.append_assoc] at hsd
      rw [List.length_append, List.length_singleton] at hp
      have i1 := ih (u / 10) (by omega) (k + 1) p ([dgt (u % 10)] ++ rest) hsd (by omega) (by omega)
      rw [List.length_append, List.length_singleton, show k + ((numD 10 (u / 10)).length + 1) = (k + 1) + (numD 10 (u / 10)).length by omega, i1]
      have := one (u / 10) (u % 10) (p + (numD 10 (u / 10)).length) k rest (by omega) (by omega) (by omega) (by
        have := congrArg (List.drop (numD 10 (u / 10)).length) hsd
        rw [List.drop_drop, List.drop_left] at this
        exact this)
      rw [this, show u / 10 * 10 + u % 10 = u by omega, Nat.add_assoc]
theorem dec10 (u : Nat) (h : u < 10000000000) : (numD 10 u).length ≤ 10 := by
  have step : ∀ v, (numD 10 v).length ≤ (numD 10 (v / 10)).length + 1 := fun v => by
    by_cases hv : v < 10
    · rw [numD_small hv]; simp
    · rw [numD_big (base := 10) (u := v) (by omega) (by decide)]; simp
  have a0 := step u; have a1 := step (u / 10); have a2 := step (u / 10 / 10); have a3 := step (u / 10 / 10 / 10); have a4 := step (u / 10 / 10 / 10 / 10)
  have a5 := step (u / 10 / 10 / 10 / 10 / 10); have a6 := step (u / 10 / 10 / 10 / 10 / 10 / 10); have a7 := step (u / 10 / 10 / 10 / 10 / 10 / 10 / 10); have a8 := step (u / 10 / 10 / 10 / 10 / 10 / 10 / 10 / 10)
  have a9 : (numD 10 (u / 10 / 10 / 10 / 10 / 10 / 10 / 10 / 10 / 10)).length ≤ 1 := by rw [numD_small (by omega)]; simp
  omega
theorem number_ok (k : Nat) (n : Int) (h : 0 ≤ n ∧ n < 4294967296) (hk : 20 ≤ k) : rd_number.f k (Lib.itoa n) = some (n, true) := by
  rw [itoa_nat n h.1, numD_dec]
  have hl := dec10 n.toNat (by omega)
  have h1 := numD_len (base := 10) (by decide) n.toNat
  have := number_go (numD 10 n.toNat) n.toNat (k - (numD 10 n.toNat).length) 0 [] (by simp) (by omega) (by omega)
  rw [show k - (numD 10 n.toNat).length + (numD 10 n.toNat).length = k by omega, Nat.zero_add] at this
  unfold rd_number.f
  obtain ⟨k', e⟩ : ∃ k', k - (numD 10 n.toNat).length = k' + 1 := ⟨k - (numD 10 n.toNat).length - 1, by omega⟩
  rw [this, e, rd_number.l0, if_neg (by omega), Option.bind_some, bstr_toList, bstr_toList, show ((n.toNat : Nat) : Int) = n by omega]
  have : (numD 10 n.toNat == ([] : List UInt8)) = false := by
    rw [beq_eq_false_iff_ne]; exact numD_ne (by decide) _
  rw [this]; rfl
/-! cut at colons -/
theorem split_spl (c : UInt8) : ∀ (n : Nat) (s : List UInt8), s.length ≤ n → Lib.splitK [c] 0 (Lib.count s [c]) s = spl c s := by
  intro n
  induction n with
  | zero =>
    intro s hs
    obtain rfl := List.eq_nil_of_length_eq_zero (Nat.le_zero.1 hs)
    rw [Lib.count_miss rfl]; rfl
  | succ n ih =>
    intro s hs
    rcases first_of c s with h | ⟨a, b, rfl, h⟩
    · rw [Lib.count_miss (index_free h), spl_free h]; rfl
    · have hi := index_app b h
      rw [Lib.count_hit (by simp) hi, Nat.add_comm 1, Lib.splitK, hi, if_neg (by rw [beq_iff_eq]; omega), spl_app b h]
      have e : (a ++ c :: b).drop (((a.length : Nat) : Int).toNat + [c].length) = b := by
        rw [Int.toNat_natCast, List.length_singleton, ← List.drop_drop, List.drop_left]; rfl
      have e2 : (a ++ c :: b).drop (a.length + [c].length) = b := by
        rw [List.length_singleton, ← List.drop_drop, List.drop_left]; rfl
      rw [e, e2, ih b (by simp at hs; omega)]
      congr 1
      rw [Int.toNat_natCast, Nat.add_zero, List.take_left]
theorem count_spl (c : UInt8) (s : List UInt8) : Lib.count s [c] ≤ s.length + 1 := Lib.count_le s [c]
theorem splitf_ok (s : List UInt8) (hs : s.length ≤ 10000000) : strings_Split.f s [58] = some (spl 58 s) := by
  unfold strings_Split.f
  have h1 := count_spl 58 s
  have e : Lib.countB (bstr s) (bstr [58]) = Lib.count s [58] := rfl
  rw [if_pos ⟨by omega, by simp, by rw [e]; omega⟩]
  have h2 := Lib.splitB_data (bstr [58]) 0 (Lib.countB (bstr s) (bstr [58])) (bstr s)
  rw [h2]
  exact congrArg some (split_spl 58 s.length s (Nat.le_refl _))
/-! which distinguishers texts are -/
theorem a4_adr (h : Int) : adrB (a4 h) := ⟨a4_isB h, by unfold a4; exact arC_length _ _ _⟩
theorem textA_a4 (h : Int) : textA (a4 h) = txt4 (a4 h).B := by unfold textA; rw [if_pos (a4_right h), if_pos (show (a4 h).Size = 4 from rfl)]
theorem root_a4 (h : Int) : rootL (a4 h) = putL h 4 := by unfold rootL a4 putL; kernel_rfl
theorem known_any (k : Nat) (x y z : List UInt8) (hx : x.length ≤ 2000000) (hy : y.length ≤ 2000000) (hz : z.length ≤ 2000000) (hk : 2005000 ≤ k) : ∃ d b, rd_known.f k x y z = some (d, b) ∧ d.length = 8 ∧ isB d := by
  unfold rd_known.f
  obtain ⟨n1, b1, e1⟩ := number_any k x (by omega) (by omega)
  obtain ⟨n2, b2, e2⟩ := number_any k z (by omega) (by omega)
  obtain ⟨n3, b3, e3⟩ := number_any k y (by omega) (by omega)
  rw [e1, Option.bind_some, e2, Option.bind_some, e3, Option.bind_some]
  have mid : ∃ q : Int × Bool, ((if (n1 == (1 : Int)) = true then (addr_Parse.f k y).bind fun t28 => (addr_Bytes.f k t28.1).bind fun t36 => (cursor_Open.f t36).bind fun t38 => ((cursor_Reader_Num.f k t38 (4 : Int)).bind fun t47 => (if (t28.2 == (0 : Int)) = true then some ((t28.1.Size == (4 : Int) : Bool), (t47.1 : Int), (t47.2.rest.left : List Int), (t47.2.rest.bad : Bool)) else some ((false : Bool), (t47.1 : Int), (t47.2.rest.left : List Int), (t47.2.rest.bad : Bool)))).bind fun s44 => some ((s44.2.1 : Int), (s44.1 : Bool)) else some ((n3 : Int), (b3 : Bool)))) = some q := by
    refine ite_ind (P := fun w => ∃ q : Int × Bool, w = some q) ?_ ⟨_, rfl⟩
    obtain ⟨a, e, p1, z1, _⟩ := parse_any k y (by omega) (by omega)
    rw [p1, Option.bind_some]
    have hb : ∃ b, addr_Bytes.f k a = some b ∧ b.length ≤ 16 := by
      obtain ⟨k', rfl⟩ : ∃ k', k = k' + 20 := ⟨k - 20, by omega⟩
      by_cases h : rightB a = true
      · refine ⟨_, addrbytes_ok k' a h, ?_⟩
        have := rootL_length a h
        have := rightB_size h
        omega
      · have h' : rightB a = false := by simpa using h
        refine ⟨[], ?_, by simp⟩
        unfold addr_Bytes.f; rw [right_ok, h']; rfl
    obtain ⟨b, hb, hl⟩ := hb
    unfold cursor_Open.f
    rw [hb, Option.bind_some, clone_ok _ (by omega), Option.bind_some, Option.bind_some]
    have hn : ∃ n r, cursor_Reader_Num.f k ⟨⟨b, false⟩⟩ 4 = some (n, r) := by
      obtain ⟨k', rfl⟩ : ∃ k', k = k' + 5 := ⟨k - 5, by omega⟩
      by_cases h4 : 4 ≤ b.length
      · exact ⟨_, _, num_ok k' ⟨⟨b, false⟩⟩ 4 rfl (by decide) (by decide) (by simp; omega)⟩
      · exact ⟨_, _, num_bad (k' + 4) ⟨⟨b, false⟩⟩ 4 (.inr (.inr (.inr (by simp; omega))))⟩
    obtain ⟨n, r, hn⟩ := hn
    rw [hn, Option.bind_some]
    simp only
    refine ite_ind (P := fun w : Option (Bool × Int × List Int × Bool) => ∃ q : Int × Bool, (w.bind fun s44 => some ((s44.2.1 : Int), (s44.1 : Bool))) = some q) ⟨_, rfl⟩ ⟨_, rfl⟩
  obtain ⟨q, hq⟩ := mid
  simp only
  rw [hq, Option.bind_some]
  obtain ⟨k', rfl⟩ : ∃ k', k = k' + 5 := ⟨k - 5, by omega⟩
  rw [make_ok, Option.bind_some]
  refine ⟨_, _, rfl, ?_⟩
  unfold makeR
  by_cases h1 : hiS n1 = 0
  · rw [if_pos h1]; exact ⟨rfl, isB_rep 8⟩
  · rw [if_neg h1]
    by_cases h2 : fits n1 q.1 n2 = true
    · rw [if_pos h2]
      refine ⟨rdL_length _ _ _ h1, fun y hy => ?_⟩
      have pb : ∀ (n : Int) (s : Nat), ∀ y ∈ putL n s, 0 ≤ y ∧ y ≤ 255 := fun n s y hy => by
        match s with
        | 0 => cases hy
        | 1 => simp only [putL, List.mem_cons, List.not_mem_nil, or_false] at hy; omega
        | 2 => simp only [putL, List.mem_cons, List.not_mem_nil, or_false] at hy; omega
        | 3 => simp only [putL, List.mem_cons, List.not_mem_nil, or_false] at hy; omega
        | 4 => simp only [putL, List.mem_cons, List.not_mem_nil, or_false] at hy; omega
        | s + 5 => cases hy
      simp only [rdL, List.mem_append] at hy
      rcases hy with (h | h) | h <;> exact pb _ _ y h
    · rw [if_neg h2]; exact ⟨rfl, isB_rep 8⟩
theorem known_ok (k : Nat) {kind h l : Int} (hk : hiS kind ≠ 0) (hf : fits kind h l = true) (hK : 5000 ≤ k) : rd_known.f k (Lib.itoa kind) (nameR kind h) (Lib.itoa l) = some (rdL kind h l, true) := by
  have r := fits_32 hk hf
  have hs := hs_of hk
  unfold rd_known.f
  have n3 : ∃ n b, rd_number.f k (nameR kind h) = some (n, b) ∧ (kind ≠ 1 → n = h ∧ b = true) := by
    by_cases h1 : kind = 1
    · have e : nameR kind h = txt4 (a4 h).B := by unfold nameR; rw [if_pos h1]
      have hl := txt4_len (a4 h).B (a4_isB h)
      rw [e]
      obtain ⟨n, b, e⟩ := number_any k (txt4 (a4 h).B) (by omega) (by omega)
      exact ⟨n, b, e, fun h2 => absurd h1 h2⟩
    · have e : nameR kind h = Lib.itoa h := by unfold nameR; rw [if_neg h1]
      rw [e]
      exact ⟨h, true, number_ok k h ⟨r.1, r.2.1⟩ (by omega), fun _ => ⟨rfl, rfl⟩⟩
  obtain ⟨n, b, e3, c3⟩ := n3
  rw [number_ok k kind ⟨hs.2.2.1, by omega⟩ (by omega), Option.bind_some, number_ok k l ⟨r.2.2.1, r.2.2.2⟩ (by omega), Option.bind_some, e3, Option.bind_some]
  obtain ⟨k', rfl⟩ : ∃ k', k = k' + 20 := ⟨k - 20, by omega⟩
  have mk : rd_Make.f (k' + 20) kind h l = some (rdL kind h l, 0) := by
    have := make_ok (k' + 15) kind h l
    unfold makeR at this
    rwa [if_neg hk, if_pos hf] at this
  simp only
  by_cases h1 : kind = 1
  · have e : nameR kind h = textA (a4 h) := by rw [textA_a4]; unfold nameR; rw [if_pos h1]
    have p := parse_text (k' + 20) (a4 h) (a4_adr h) (a4_right h) (by omega)
    have nb : cursor_Reader_Num.f (k' + 20) ⟨⟨putL h 4, false⟩⟩ 4 = some (h, ⟨⟨[], false⟩⟩) := by
      have hl := putL_length h 4 (by decide) (by decide)
      have := num_ok (k' + 15) ⟨⟨putL h 4, false⟩⟩ 4 rfl (by decide) (by decide) (by simp [hl])
      rw [show (putL h 4).take (Int.toNat 4) = putL h 4 from List.take_of_length_le (by rw [hl]; decide), show (putL h 4).drop (Int.toNat 4) = [] from List.drop_of_length_le (by rw [hl]; decide)] at this
      rw [num_put h 4 (by decide) (by decide) r.1 (by have := r.2.1; simpa using this)] at this
      exact this
    rw [if_pos (by simp [h1]), e, p, Option.bind_some, addrbytes_ok k' _ (a4_right h), Option.bind_some, root_a4]
    unfold cursor_Open.f
    rw [clone_ok _ (by rw [putL_length h 4 (by decide) (by decide)]; decide), Option.bind_some, Option.bind_some, nb, Option.bind_some]
    simp only
    rw [if_pos (by decide), Option.bind_some, Option.bind_some]
    simp only
    rw [mk, Option.bind_some]
    rfl
  · obtain ⟨rfl, rfl⟩ := c3 h1
    rw [if_neg (by simpa using h1), Option.bind_some]
    simp only
    rw [mk, Option.bind_some]; rfl
theorem hex8_len : ∀ d : List Int, (hex8 d).length = 2 * d.length
  | [] => rfl
  | b :: bs => by simp only [hex8, List.length_cons, hex8_len bs]; omega
theorem hex8_free : ∀ d : List Int, isB d → (58 : UInt8) ∉ hex8 d
  | [], _ => by simp [hex8]
  | b :: bs, h => by
    have hb := h b (by simp)
    have one : ∀ x, x < 16 → (58 : UInt8) ≠ dgt x := fun x hx e => by
      have := dgt_toNat hx
      rw [← e] at this
      have : (58 : UInt8).toNat = 58 := rfl
      split at * <;> omega
    have := hex8_free bs (fun y hy => h y (by simp [hy]))
    simp only [hex8, List.mem_cons, not_or]
    exact ⟨one _ (by omega), one _ (by omega), this⟩
theorem spl_textR (kind h l : Int) (h1 : 0 ≤ kind) (h2 : 0 ≤ h) (h3 : 0 ≤ l) : spl 58 (textR kind h l) = [Lib.itoa kind, nameR kind h, Lib.itoa l] := by
  have e : textR kind h l = Lib.itoa kind ++ 58 :: (nameR kind h ++ 58 :: Lib.itoa l) := by unfold textR; simp
  rw [e, spl_app _ (itoa_free _ h1 58 (.inr (by decide))), spl_app _ (name_free kind h h2), spl_free (itoa_free _ h3 58 (.inr (by decide)))]
theorem itoa_10 (n : Int) (h : 0 ≤ n ∧ n < 4294967296) : (Lib.itoa n).length ≤ 10 := by
  rw [itoa_nat n h.1, numD_dec]; exact dec10 _ (by omega)
theorem name_2000 (kind h : Int) (h0 : 0 ≤ h ∧ h < 4294967296) : (nameR kind h).length ≤ 1100 := by
  unfold nameR
  split
  · have := txt4_len _ (a4_isB h); omega
  · have := itoa_10 h h0; omega
theorem textD_len (d : List Int) (hd : d.length = 8) (hB : isB d) : (textD d).length ≤ 2000 := by
  unfold textD
  by_cases h : (partsR d).2.2.2 = true
  · rw [if_pos h]
    obtain ⟨h1, h2, h3⟩ := parts_back hd hB h
    have r := fits_32 h1 h2
    have hs := hs_of h1
    have a := itoa_10 (partsR d).1 ⟨hs.2.2.1, by omega⟩
    have b := name_2000 (partsR d).1 (partsR d).2.1 ⟨r.1, r.2.1⟩
    have c := itoa_10 (partsR d).2.2.1 ⟨r.2.2.1, r.2.2.2⟩
    unfold textR; simp; omega
  · rw [if_neg h]; simp [hex8_len]; omega
theorem rdparse_text (k : Nat) (d : List Int) (hd : d.length = 8) (hB : isB d) (hk : 5000 ≤ k) : rd_Parse.f k (textD d) = some (d, 0) := by
  have ht := textd_ok k d hd hB (by omega)
  have hl := textD_len d hd hB
  unfold rd_Parse.f
  rw [splitf_ok _ (by omega), Option.bind_some]
  by_cases h : (partsR d).2.2.2 = true
  · obtain ⟨h1, h2, h3⟩ := parts_back hd hB h
    have r := fits_32 h1 h2
    have hs := hs_of h1
    have e : textD d = textR (partsR d).1 (partsR d).2.1 (partsR d).2.2.1 := by unfold textD; rw [if_pos h]
    have kn := known_ok k h1 h2 hk
    rw [h3] at kn
    rw [e] at ht ⊢
    rw [spl_textR _ _ _ hs.2.2.1 r.1 r.2.2.1, if_neg (by simp), if_pos (by simp), if_pos (by simp), if_pos (by simp), if_pos (by simp)]
    have r0 : rd [Lib.itoa (partsR d).1, nameR (partsR d).1 (partsR d).2.1, Lib.itoa (partsR d).2.2.1] 0 = Lib.itoa (partsR d).1 := rfl
    have r1 : rd [Lib.itoa (partsR d).1, nameR (partsR d).1 (partsR d).2.1, Lib.itoa (partsR d).2.2.1] 1 = nameR (partsR d).1 (partsR d).2.1 := rfl
    have r2 : rd [Lib.itoa (partsR d).1, nameR (partsR d).1 (partsR d).2.1, Lib.itoa (partsR d).2.2.1] 2 = Lib.itoa (partsR d).2.2.1 := rfl
    rw [r0, r1, r2, kn, Option.bind_some]
    simp only
    rw [if_neg (by simp), ht, Option.bind_some, Option.bind_some, bstr_toList, if_neg (by simp)]
  · have e : textD d = 63 :: 58 :: hex8 d := by unfold textD; rw [if_neg h]
    have es : spl 58 (63 :: 58 :: hex8 d) = [[63], hex8 d] := by
      have := spl_app (c := 58) (a := [63]) (hex8 d) (by decide)
      rw [spl_free (hex8_free d hB)] at this
      exact this
    rw [e] at ht ⊢
    have r1 : rd [[63], hex8 d] 1 = hex8 d := rfl
    rw [es, if_pos (by simp), if_pos (by simp), r1, strange_ok k d hd hB (by omega), Option.bind_some, ht, Option.bind_some, bstr_toList, if_neg (by simp)]
theorem spl_mem_len (c : UInt8) : ∀ (s : List UInt8), ∀ x ∈ spl c s, x.length ≤ s.length
  | [], x, h => by simp [spl] at h; simp [h]
  | y :: s, x, h => by
    rw [spl] at h
    by_cases e : y = c
    · rw [if_pos e] at h
      rcases List.mem_cons.1 h with rfl | h
      · simp
      · have := spl_mem_len c s x h; simp; omega
    · rw [if_neg e] at h
      obtain ⟨z, zs, ez⟩ := spl_pos c s
      rw [ez] at h
      simp only at h
      rcases List.mem_cons.1 h with rfl | h
      · have := spl_mem_len c s z (by rw [ez]; simp); simp; omega
      · have := spl_mem_len c s x (by rw [ez]; simp [h]); simp; omega
theorem rd_mem (l : List (List UInt8)) (i : Nat) (h : i < l.length) : rd l (i : Int) ∈ l := by
  have : rd l (i : Int) = l[i] := by unfold rd; rw [Int.toNat_natCast, List.getD_eq_getElem?_getD, List.getElem?_eq_getElem h]; rfl
  rw [this]; exact List.getElem_mem h
theorem rdparse_any (k : Nat) (s : List UInt8) (hs : s.length ≤ 2000000) (hk : 2005000 ≤ k) : ∃ d e, rd_Parse.f k s = some (d, e) ∧ d.length = 8 ∧ isB d ∧ (e = 0 ∧ textD d = s ∨ e = 4 ∧ d = z8) := by
  have hz : (z8.length = 8 ∧ isB z8) := ⟨rfl, isB_rep 8⟩
  have ml : ∀ i : Nat, i < (spl 58 s).length → (rd (spl 58 s) (i : Int)).length ≤ 2000000 := fun i hi => by
    have := spl_mem_len 58 s _ (rd_mem _ i hi); omega
  unfold rd_Parse.f
  rw [splitf_ok _ (by omega), Option.bind_some]
  by_cases h2 : (spl 58 s).length = 2
  · have m1 := ml 1 (by omega)
    rw [show ((1 : Nat) : Int) = 1 from rfl] at m1
    obtain ⟨d, e1, ld, bd⟩ := strangef_any k (rd (spl 58 s) 1) (by omega) (by omega)
    rw [if_pos (by simp [h2]), if_pos (by omega), e1, Option.bind_some, textd_ok k d ld bd (by omega), Option.bind_some, bstr_toList, bstr_toList]
    by_cases e : textD d = s
    · rw [if_neg (by simpa using e)]; exact ⟨_, _, rfl, ld, bd, .inl ⟨rfl, e⟩⟩
    · rw [if_pos (by simpa using e)]; exact ⟨_, _, rfl, hz.1, hz.2, .inr ⟨rfl, rfl⟩⟩
  · rw [if_neg (by simp; omega)]
    by_cases h3 : (spl 58 s).length = 3
    · have m0 := ml 0 (by omega); have m1 := ml 1 (by omega); have m2 := ml 2 (by omega)
      rw [show ((0 : Nat) : Int) = 0 from rfl] at m0
      rw [show ((1 : Nat) : Int) = 1 from rfl] at m1
      rw [show ((2 : Nat) : Int) = 2 from rfl] at m2
      obtain ⟨d, b, e1, ld, bd⟩ := known_any k _ _ _ m0 m1 m2 hk
      rw [if_pos (by simp [h3]), if_pos (by omega), if_pos (by omega), if_pos (by omega), e1, Option.bind_some]
      cases b with
      | false => rw [if_pos (by simp), Option.bind_some, if_pos rfl]; exact ⟨_, _, rfl, hz.1, hz.2, .inr ⟨rfl, rfl⟩⟩
      | true =>
        simp only
        rw [if_neg (by simp), textd_ok k d ld bd (by omega), Option.bind_some, Option.bind_some, bstr_toList, bstr_toList]
        by_cases e : textD d = s
        · rw [if_neg (by simpa using e)]; exact ⟨_, _, rfl, ld, bd, .inl ⟨rfl, e⟩⟩
        · rw [if_pos (by simpa using e)]; exact ⟨_, _, rfl, hz.1, hz.2, .inr ⟨rfl, rfl⟩⟩
    · rw [if_neg (by simp; omega)]; exact ⟨_, _, rfl, hz.1, hz.2, .inr ⟨rfl, rfl⟩⟩
theorem le8_iff (x y : List Int) : le8 x y = true ↔ b2s (arL 8 x) ≤ b2s (arL 8 y) := by
  simp only [le8, cmp8, Bool.not_eq_true', decide_eq_false_iff_not, sx_lt, List.not_lt]
/-- there is one row in order -/
theorem ms_eq {l m : List (List Int)} (hv : ∀ x ∈ l, ok8b x = true) (hp : m.Perm l) (hs : m.Pairwise (fun x y => le8 x y = true)) : l.mergeSort le8 = m := by
  refine List.Perm.eq_of_pairwise (le := fun x y => le8 x y = true) ?_ ?_ hs ((List.mergeSort_perm l le8).trans hp.symm)
  · intro a b ha hb h1 h2
    rw [le8_iff] at h1 h2
    exact ok8_inj (hv a ((List.mergeSort_perm l le8).mem_iff.1 ha)) (hv b (hp.mem_iff.1 hb)) (List.le_antisymm h1 h2)
  · refine List.pairwise_mergeSort ?_ ?_ l
    · intro a b c h1 h2
      rw [le8_iff] at *
      exact List.le_trans h1 h2
    · intro a b
      rw [Bool.or_eq_true, le8_iff, le8_iff]
      exact List.le_total _ _
def smA : List Int := [0, 2, 253, 232, 0, 0, 0, 77]
def smB : List Int := [1, 11, 10, 0, 0, 1, 0, 3]
theorem small_set : community_Set.f [smB, smA, smB] = some [smA, smB] := by
  have h : [smB, smA, smB].mergeSort le8 = [smA, smB, smB] := ms_eq (by decide) (by decide) (by decide)
  unfold community_Set.f
  rw [if_pos (by decide)]
  unfold setE
  rw [h]
  rfl
theorem small04 (k : Nat) : vinerylaw04_small.f (k + 60) = some true := by
  have hT : community_Target.f (k + 60) 0 65000 77 = some (smA, 0) := by kernel_rfl
  have hI : community_Import.f (k + 60) ⟨4, [10, 0, 0, 1, 0, 0, 0, 0, 0, 0, 0, 0, 0, 0, 0, 0]⟩ 3 = some (smB, 0) := by kernel_rfl
  have hC : community_Source.f (k + 60) 65000 = some ([2, 9, 0, 0, 253, 232, 0, 0], 0) := by kernel_rfl
  unfold vinerylaw04_small.f
  rw [hT, Option.bind_some, hI, Option.bind_some, hC, Option.bind_some]
  show (community_Set.f [smB, smA, smB]).bind _ = _
  rw [small_set, Option.bind_some]
  kernel_rfl
def z8c : List Int := [0, 0, 0, 0, 0, 0, 0, 0]
theorem comm_of6 (a b : Int) (r : List Int) (hr : r.length = 6) : community_of.f a b r = some (a :: b :: r) := by
  match r, hr with
  | [_, _, _, _, _, _], _ => rfl
theorem comm_of4 (a b : Int) (r : List Int) (hr : r.length = 4) : community_of.f a b r = some (a :: b :: (r ++ [0, 0])) := by
  match r, hr with
  | [_, _, _, _], _ => rfl
def targR (kind h l : Int) : List Int × Int := if (makeR kind h l).2 = 0 then (IntKind.u8.wrap kind :: 2 :: (makeR kind h l).1.drop 2, 0) else (z8c, (makeR kind h l).2)
def impR (a : S_api_Addr) (n : Int) : List Int × Int := if rightB a = true ∧ a.Size = 4 then (if 0 ≤ n ∧ n < 65536 then (1 :: 11 :: (rootL a ++ putL n 2), 0) else (z8c, 5)) else (z8c, 1)
def srcR (n : Int) : List Int × Int := if 0 ≤ n ∧ n < 4294967296 then (2 :: 9 :: (putL n 4 ++ [0, 0]), 0) else (z8c, 5)
theorem makeR_len (kind h l : Int) : (makeR kind h l).1.length = 8 := by
  unfold makeR
  rcases hiS_or kind with ⟨_, e⟩ | ⟨_, e⟩ | ⟨_, _, _, e⟩
  · split
    · rfl
    · split
      · unfold rdL loS
        rw [e]
        simp [putL]
      · rfl
  · split
    · rfl
    · split
      · unfold rdL loS
        rw [e]
        simp [putL]
      · rfl
  · rw [if_pos e]; rfl
theorem targ_ok (k : Nat) (kind h l : Int) : community_Target.f (k + 20) kind h l = some (targR kind h l) := by
  unfold community_Target.f targR
  rw [make_ok (k + 15), Option.bind_some]
  have hl := makeR_len kind h l
  generalize makeR kind h l = m at hl ⊢
  by_cases h0 : m.2 = 0
  · rw [if_neg (by simp [h0]), if_pos (by decide), arL8 hl, comm_of6 _ _ _ (by simp; omega), Option.bind_some, if_pos h0]
    rw [show Int.toNat (8 : Int) = 8 from rfl, ← hl, List.take_length]; rfl
  · rw [if_pos (by simp [h0]), if_neg h0]; rfl
theorem no4 (a : S_api_Addr) : (if (!rightB a) = true then some (true : Bool) else some (a.Size != (4 : Int) : Bool)) = some (!(rightB a && a.Size == 4)) := by
  cases rightB a <;> rfl
theorem imp_ok (k : Nat) (a : S_api_Addr) (n : Int) : community_Import.f (k + 20) a n = some (impR a n) := by
  unfold community_Import.f impR
  rw [right_ok, Option.bind_some, no4, Option.bind_some]
  by_cases hr : rightB a = true ∧ a.Size = 4
  · have hl := rootL_length a hr.1
    have e : (!(rightB a && a.Size == 4)) = false := by simp [hr.1, hr.2]
    rw [e, if_neg (by decide), addrbytes_ok k a hr.1, Option.bind_some, show (2 : Int) = ((2 : Nat) : Int) from rfl, put_any (k + 15) _ _ 2 (by omega) (by omega) (by omega), Option.bind_some, if_pos hr]
    by_cases hn : 0 ≤ n ∧ n < 65536
    · have e2 : (decide (0 ≤ n) && decide (n < 2 ^ (8 * 2))) = true := by simp; omega
      rw [e2, if_pos rfl, if_neg (by simp), comm_of6 _ _ _ (by simp [putL]; omega), Option.bind_some, if_pos hn]
    · have e2 : (decide (0 ≤ n) && decide (n < 2 ^ (8 * 2))) = false := by simp; omega
      rw [e2, if_neg (by decide : ¬ (false = true)), if_neg hn]; rfl
  · have e : (!(rightB a && a.Size == 4)) = true := by
      rw [Bool.not_eq_true', Bool.and_eq_false_iff]
      by_cases h1 : rightB a = true
      · exact .inr (by simpa using fun h => hr ⟨h1, h⟩)
      · exact .inl (by simpa using h1)
    rw [e, if_pos rfl, if_neg hr]; rfl
theorem src_ok (k : Nat) (n : Int) : community_Source.f (k + 20) n = some (srcR n) := by
  unfold community_Source.f srcR
  rw [show (4 : Int) = ((4 : Nat) : Int) from rfl, put_any (k + 15) _ _ 4 (by simp) (by omega) (by omega), Option.bind_some]
  by_cases hn : 0 ≤ n ∧ n < 4294967296
  · have e2 : (decide (0 ≤ n) && decide (n < 2 ^ (8 * 4))) = true := by simp; omega
    rw [e2, if_pos rfl, if_neg (by simp), comm_of4 _ _ _ (by simp [putL]), Option.bind_some, if_pos hn]; rfl
  · have e2 : (decide (0 ≤ n) && decide (n < 2 ^ (8 * 4))) = false := by simp; omega
    rw [e2, if_neg (by decide : ¬ (false = true)), if_neg hn]; rfl
theorem es8 (z : List Int) : eqA 8 z z = true := (eqA_iff _ _ _).2 fun _ _ => rfl
def kindR (e : List Int) : Int := if ar e 1 = 2 ∧ ar e 0 ≤ 2 then 1 else if ar e 1 = 11 ∧ ar e 0 = 1 then 2 else if ar e 1 = 9 ∧ ar e 0 = 2 ∧ (IntKind.u8.wrap (BitVec.ofInt IntKind.u8.bits (ar e 6) ||| BitVec.ofInt IntKind.u8.bits (ar e 7)).toNat) = 0 then 3 else 0
theorem and3 (p q : Prop) [Decidable p] [Decidable q] (x y : Bool) (hx : x = true ↔ p) (hy : y = true ↔ q) : (if x = true then some (y : Bool) else some false) = some (decide (p ∧ q)) := by
  by_cases hp : p <;> by_cases hq : q <;> simp_all
theorem kind_ok (e : List Int) : community_Kind.f e = some (kindR e) := by
  unfold community_Kind.f kindR
  have h1 := and3 (ar e 1 = 2) (ar e 0 ≤ 2) (ar e 1 == 2) (decide (ar e 0 ≤ 2)) (by simp) (by simp)
  have h2 := and3 (ar e 1 = 11) (ar e 0 = 1) (ar e 1 == 11) (ar e 0 == 1) (by simp) (by simp)
  have h3 : (if (ar e 1 == (9 : Int)) = true then (if (ar e 0 == (2 : Int)) = true then some ((IntKind.u8.wrap (BitVec.ofInt IntKind.u8.bits (ar e 6) ||| BitVec.ofInt IntKind.u8.bits (ar e 7)).toNat) == (0 : Int) : Bool) else some (false : Bool)) else some (false : Bool)) = some (decide (ar e 1 = 9 ∧ ar e 0 = 2 ∧ (IntKind.u8.wrap (BitVec.ofInt IntKind.u8.bits (ar e 6) ||| BitVec.ofInt IntKind.u8.bits (ar e 7)).toNat) = 0)) := by
    generalize (IntKind.u8.wrap (BitVec.ofInt IntKind.u8.bits (ar e 6) ||| BitVec.ofInt IntKind.u8.bits (ar e 7)).toNat : Int) = q
    by_cases p1 : ar e 1 = 9 <;> by_cases p2 : ar e 0 = 2 <;> by_cases p3 : q = 0 <;> simp_all
  rw [h1, Option.bind_some]
  by_cases c1 : ar e 1 = 2 ∧ ar e 0 ≤ 2
  · rw [if_pos (decide_eq_true c1), if_pos c1]
  · rw [if_neg (by simpa using c1), if_neg c1, h2, Option.bind_some]
    by_cases c2 : ar e 1 = 11 ∧ ar e 0 = 1
    · rw [if_pos (decide_eq_true c2), if_pos c2]
    · rw [if_neg (by simpa using c2), if_neg c2, h3, Option.bind_some]
      split
      · rename_i c3; rw [if_pos (of_decide_eq_true c3)]
      · rename_i c3; rw [if_neg (by simpa using c3)]
theorem rdx {α : Type} [Inhabited α] (l : List α) (i : Nat) (hi : i < l.length) : rd l (i : Int) = l[i] := by simp [rd, List.getD, hi]
theorem ctext_l0 (d : List Int) (hd : d.length = 8) (hB : isB d) : ∀ (m i k : Nat) (out : List Int), i + m = 8 → m < k → out.length ≤ 6 + 2 * i → ∃ r, community_Text.l0 d k out (i : Int) = some r ∧ b2s r = b2s out ++ hex8 (d.drop i)
  | 0, i, k, out, hi, hk, ho => by
    obtain ⟨k, rfl⟩ : ∃ k', k = k' + 1 := ⟨k - 1, by omega⟩
    exact ⟨out, by rw [community_Text.l0, if_neg (by simp; omega)], by rw [List.drop_of_length_le (by omega)]; simp [hex8]⟩
  | m + 1, i, k, out, hi, hk, ho => by
    obtain ⟨k, rfl⟩ : ∃ k', k = k' + 1 := ⟨k - 1, by omega⟩
    have hb := ar_isB hB i
    have hil : i < d.length := by omega
    have e3 : IntKind.i64.wrap ((i : Int) + 1) = ((i + 1 : Nat) : Int) := by rw [w64 _ (by omega)]; omega
    have es : Int.fdiv (ar d i) (2 ^ (min (4 : Int).toNat IntKind.u8.bits)) = (((ar d i).toNat / 16 : Nat) : Int) := by
      have : ((2 : Int) ^ (min (4 : Int).toNat IntKind.u8.bits)) = 16 := rfl
      rw [this, Int.fdiv_eq_ediv_of_nonneg _ (by omega)]; omega
    have g1 := digs16 ⟨(ar d i).toNat / 16, by omega⟩
    have g2 := digs16 ⟨(ar d i).toNat % 16, by omega⟩
    simp only at g1 g2
    rw [community_Text.l0, if_pos (by simp; omega), if_pos (by omega), Int.toNat_natCast, es, and_15 _ hb, e3, Int.toNat_natCast, Int.toNat_natCast, if_pos (by simp; omega), if_pos (by simp; omega), g1, g2, if_pos (by simp; omega)]
    obtain ⟨r, h1, h2⟩ := ctext_l0 d hd hB m (i + 1) k (out ++ [((dgt ((ar d i).toNat / 16)).toNat : Int), ((dgt ((ar d i).toNat % 16)).toNat : Int)]) (by omega) (by omega) (by simp; omega)
    refine ⟨r, h1, ?_⟩
    rw [h2, List.drop_eq_getElem_cons hil, ar_at _ _ hil]
    simp [b2s, hex8, List.map_append]
theorem raw_any (s : List UInt8) (hs : s.length ≤ 10000000) : ∀ (n p k : Nat) (x : List Int), s.length - p ≤ n → n < k → x.length = 8 → isB x → ∃ r, community_raw.l0 s k x p = some r ∧ ((∃ q, r = .inl q ∧ q.length = 8 ∧ isB q) ∨ ∃ q p', r = .inr (q, p') ∧ q.length = 8 ∧ isB q) := by
  intro n
  induction n with
  | zero =>
    intro p k x hn hk hx hb
    obtain ⟨k, rfl⟩ : ∃ k', k = k' + 1 := ⟨k - 1, by omega⟩
    exact ⟨.inr (x, p), by rw [community_raw.l0, if_neg (by omega)], .inr ⟨x, p, rfl, hx, hb⟩⟩
  | succ n ih =>
    intro p k x hn hk hx hb
    obtain ⟨k, rfl⟩ : ∃ k', k = k' + 1 := ⟨k - 1, by omega⟩
    by_cases hp : p < s.length
    · have hz : isB [(0 : Int), 0, 0, 0, 0, 0, 0, 0] := isB_rep 8
      have hpos := dec_pos s p hp
      rw [community_raw.l0, if_pos hp]
      obtain ⟨c, hc⟩ : ∃ c : Int, ((if (decide (((dec s p).1 : Int) ≥ (97 : Int))) = true then some (IntKind.i32.wrap ((IntKind.i32.wrap (((dec s p).1 : Int) - (97 : Int))) + (10 : Int)) : Int) else some (IntKind.i32.wrap (((dec s p).1 : Int) - (48 : Int)) : Int))) = some c := ite_ind (P := fun z => ∃ c : Int, z = some c) ⟨_, rfl⟩ ⟨_, rfl⟩
      rw [hc, Option.bind_some, tdiv2 p (by omega)]
      by_cases g : 0 ≤ c ∧ c ≤ 15 ∧ p < 16
      · rw [decide_eq_false (by omega : ¬ c < 0), decide_eq_false (by omega : ¬ c > 15), decide_eq_false (by omega : ¬ (p : Int) ≥ 16), if_neg (by simp), if_pos (by omega), if_pos (by omega), arL8e hx, Int.toNat_natCast]
        refine ih _ k _ (by omega) (by omega) (by simpa using hx) fun y hy => ?_
        rcases List.mem_or_eq_of_mem_set hy with hy | rfl
        · exact hb y hy
        · rw [IntKind.wrap_u8]; omega
      · rw [if_pos]
        · exact ⟨_, rfl, .inl ⟨_, rfl, rfl, hz⟩⟩
        · by_cases g1 : c < 0
          · simp [g1]
          · by_cases g2 : c > 15
            · simp [g2]
            · rw [decide_eq_true (show (p : Int) ≥ 16 by omega), ite_self]
    · exact ⟨.inr (x, p), by rw [community_raw.l0, if_neg hp], .inr ⟨x, p, rfl, hx, hb⟩⟩
theorem rawf_any (k : Nat) (s : List UInt8) (hs : s.length ≤ 10000000) (hk : s.length < k) : ∃ d, community_raw.f k s = some d ∧ d.length = 8 ∧ isB d := by
  unfold community_raw.f
  obtain ⟨r, hr, hx⟩ := raw_any s hs s.length 0 k (List.replicate 8 0) (by omega) hk (by simp) (isB_rep 8)
  rw [hr, Option.bind_some]
  rcases hx with ⟨q, rfl, h1, h2⟩ | ⟨q, p', rfl, h1, h2⟩
  · exact ⟨q, rfl, h1, h2⟩
  · exact ⟨q, rfl, h1, h2⟩
theorem raw_step (s : List UInt8) (p k : Nat) (x : List Int) (hx : x.length = 8) (c : Nat) (hc : c < 16) (hp : p < 16) (rest : List UInt8) (h : s.drop p = dgt c :: rest) :
    community_raw.l0 s (k + 1) x p = community_raw.l0 s k (x.set (p / 2) (shl4 (ar x (p / 2)) c)) (p + 1) := by
  have hpl : p < s.length := by
    have := congrArg List.length h
    rw [List.length_drop, List.length_cons] at this
    omega
  have hcc : s[p] = dgt c := by
    have := congrArg (fun l => l[0]?) h
    simp only [List.getElem?_drop, Nat.add_zero, List.getElem?_cons_zero] at this
    rw [List.getElem?_eq_getElem hpl] at this
    exact Option.some.inj this
  have hdn := dgt_toNat hc
  have hdec : dec s p = ((dgt c).toNat, 1) := by
    rw [dec_ascii s p hpl (by rw [hcc, hdn]; split <;> omega), hcc]
  have ec : ((if (decide (((dgt c).toNat : Int) ≥ (97 : Int))) = true then some (IntKind.i32.wrap ((IntKind.i32.wrap (((dgt c).toNat : Int) - (97 : Int))) + (10 : Int)) : Int) else some (IntKind.i32.wrap (((dgt c).toNat : Int) - (48 : Int)) : Int))) = some (c : Int) := by
    rw [hdn]
    by_cases h1 : c < 10
    · rw [if_pos h1, if_neg (by simp; omega), w32 _ (by omega)]; congr 1; omega
    · rw [if_neg h1, if_pos (by simp; omega), w32 (((87 + c : Nat) : Int) - 97) (by omega), w32 _ (by omega)]; congr 1; omega
  rw [community_raw.l0, if_pos hpl, hdec]
  simp only
  rw [ec, Option.bind_some, tdiv2 p (by omega), decide_eq_false (by omega : ¬ (c : Int) < 0), decide_eq_false (by omega : ¬ (c : Int) > 15), decide_eq_false (by omega : ¬ (p : Int) ≥ 16), if_neg (by simp), if_pos (by omega), if_pos (by omega), arL8e hx, Int.toNat_natCast]
  rfl
theorem raw_two (s : List UInt8) (i k : Nat) (x : List Int) (hx : x.length = 8) (b : Int) (hb : 0 ≤ b ∧ b ≤ 255) (hi : i < 8) (h0 : ar x i = 0) (rest : List UInt8) (h : s.drop (2 * i) = dgt (b.toNat / 16) :: dgt (b.toNat % 16) :: rest) :
    community_raw.l0 s (k + 2) x (2 * i) = community_raw.l0 s k (x.set i b) (2 * i + 2) := by
  have h2 : s.drop (2 * i + 1) = dgt (b.toNat % 16) :: rest := by
    have := congrArg (List.drop 1) h
    rw [List.drop_drop] at this
    exact this
  have q0 := shl4_0 ⟨b.toNat / 16, by omega⟩
  have q1 := shl4_d ⟨b.toNat / 16, by omega⟩ ⟨b.toNat % 16, by omega⟩
  simp only at q0 q1
  rw [raw_step s (2 * i) (k + 1) x hx (b.toNat / 16) (by omega) (by omega) _ h, show 2 * i / 2 = i by omega, h0, q0,
    raw_step s (2 * i + 1) k _ (by simpa using hx) (b.toNat % 16) (by omega) (by omega) _ h2, show (2 * i + 1) / 2 = i by omega]
  have ea : ar (x.set i ((b.toNat / 16 : Nat) : Int)) i = ((b.toNat / 16 : Nat) : Int) := by rw [ar_setD _ _ _ _ (by omega), if_pos rfl]
  rw [ea, q1, List.set_set, show ((16 * (b.toNat / 16) + b.toNat % 16 : Nat) : Int) = b by omega]
theorem raw_go (s : List UInt8) (d : List Int) (hd : d.length = 8) (hB : isB d) : ∀ (m i k : Nat), i + m = 8 → s.drop (2 * i) = hex8 (d.drop i) → 2 * m < k → community_raw.l0 s k (d.take i ++ List.replicate m 0) (2 * i) = some (.inr (d, 16))
  | 0, i, k, hi, hs, hk => by
    obtain ⟨k, rfl⟩ : ∃ k', k = k' + 1 := ⟨k - 1, by omega⟩
    have hl : s.length ≤ 2 * i := by
      rw [List.drop_of_length_le (show d.length ≤ i by omega)] at hs
      have := congrArg List.length hs
      rw [List.length_drop] at this
      simp [hex8] at this
      omega
    rw [community_raw.l0, if_neg (by omega), List.take_of_length_le (by omega), show 2 * i = 16 by omega]
    simp
  | m + 1, i, k, hi, hs, hk => by
    obtain ⟨k, rfl⟩ : ∃ k', k = k' + 2 := ⟨k - 2, by omega⟩
    have hil : i < d.length := by omega
    have hb := hB d[i] (List.getElem_mem hil)
    have lt : (d.take i).length = i := by rw [List.length_take]; omega
    rw [List.drop_eq_getElem_cons hil, hex8] at hs
    rw [raw_two s i k _ (by simp [lt]; omega) d[i] hb (by omega) (by unfold ar; rw [List.getD_eq_getElem?_getD, List.getElem?_append_right (by omega), lt, Nat.sub_self]; simp) _ hs]
    have e : (d.take i ++ List.replicate (m + 1) (0 : Int)).set i d[i] = d.take (i + 1) ++ List.replicate m 0 := by
      rw [List.set_append_right _ _ (by omega), lt, Nat.sub_self, List.replicate_succ, List.set_cons_zero, List.take_add_one, List.getElem?_eq_getElem hil, List.append_assoc]
      rfl
    rw [e, show 2 * i + 2 = 2 * (i + 1) by omega]
    refine raw_go s d hd hB m (i + 1) k (by omega) ?_ (by omega)
    have := congrArg (List.drop 2) hs
    rw [List.drop_drop] at this
    exact this
theorem raw_ok (k : Nat) (d : List Int) (hd : d.length = 8) (hB : isB d) (hk : 20 ≤ k) : community_raw.f k (hex8 d) = some d := by
  unfold community_raw.f
  have := raw_go (hex8 d) d hd hB 8 0 k rfl (by simp) (by omega)
  simp only [List.take_zero, List.nil_append, Nat.mul_zero] at this
  rw [this]; rfl
theorem cnumber_any (k : Nat) (s : List UInt8) (hs : s.length ≤ 10000000) (hk : s.length < k) : ∃ n, community_number.f k s = some n := by
  unfold community_number.f
  have go : ∀ (n p k : Nat) (x : Int), s.length - p ≤ n → n < k → ∃ r, community_number.l0 s k x p = some r := by
    intro n
    induction n with
    | zero =>
      intro p k x hn hk
      obtain ⟨k, rfl⟩ : ∃ k', k = k' + 1 := ⟨k - 1, by omega⟩
      exact ⟨.inr (x, p), by rw [community_number.l0, if_neg (by omega)]⟩
    | succ n ih =>
      intro p k x hn hk
      obtain ⟨k, rfl⟩ : ∃ k', k = k' + 1 := ⟨k - 1, by omega⟩
      by_cases hp : p < s.length
      · have hpos := dec_pos s p hp
        rw [community_number.l0, if_pos hp]
        exact ite_ind (P := fun z => ∃ r, z = some r) ⟨_, rfl⟩ (ih _ k _ (by omega) (by omega))
      · exact ⟨.inr (x, p), by rw [community_number.l0, if_neg hp]⟩
  obtain ⟨r, hr⟩ := go s.length 0 k 0 (by omega) hk
  rw [hr, Option.bind_some]
  rcases r with n | ⟨n, p⟩ <;> exact ⟨_, rfl⟩
theorem cnumber_go (s : List UInt8) : ∀ (u k p : Nat) (rest : List UInt8), s.drop p = numD 10 u ++ rest → u < 1000000000000 → p + (numD 10 u).length ≤ 10 →
    community_number.l0 s (k + (numD 10 u).length) 0 p = community_number.l0 s k (u : Int) (p + (numD 10 u).length) := by
  have one : ∀ (x d p k : Nat) (rest : List UInt8), x < 1000000000000 → d < 10 → p < 10 → s.drop p = dgt d :: rest → community_number.l0 s (k + 1) (x : Int) p = community_number.l0 s k ((x * 10 + d : Nat) : Int) (p + 1) := by
    intro x d p k rest hx hd hp h
    have hpl : p < s.length := by
      have := congrArg List.length h
      rw [List.length_drop, List.length_cons] at this
      omega
    have hcc : s[p] = dgt d := by
      have := congrArg (fun l => l[0]?) h
      simp only [List.getElem?_drop, Nat.add_zero, List.getElem?_cons_zero] at this
      rw [List.getElem?_eq_getElem hpl] at this
      exact Option.some.inj this
    have hdn := dgt_toNat (d := d) (by omega)
    rw [if_pos hd] at hdn
    have hdec : dec s p = (48 + d, 1) := by
      rw [dec_ascii s p hpl (by rw [hcc, hdn]; omega), hcc, hdn]
    rw [community_number.l0, if_pos hpl, hdec]
    simp only
    rw [decide_eq_false (by omega : ¬ ((48 + d : Nat) : Int) < 48), decide_eq_false (by omega : ¬ ((48 + d : Nat) : Int) > 57), decide_eq_false (by omega : ¬ (p : Int) ≥ 10), if_neg (by simp), w32 _ (by omega), w64 (((48 + d : Nat) : Int) - 48) (by omega), w64 ((10 : Int) * x) (by omega), w64 _ (by omega)]
    congr 1; omega
  intro u
  induction u using Nat.strongRecOn with
  | ind u ih =>
    intro k p rest hsd hu hp
    by_cases hsm : u < 10
    · rw [numD_small hsm] at hsd hp ⊢
      have := one 0 u p k rest (by decide) hsm (by simp at hp; omega) hsd
      simpa using this
    · have hbig := numD_big (base := 10) (u := u) (by omega) (by decide)
      rw [hbig] at hsd hp ⊢
      rw [List.append_assoc] at hsd
      rw [List.length_append, List.length_singleton] at hp
      have i1 := ih (u / 10) (by omega) (k + 1) p ([dgt (u % 10)] ++ rest) hsd (by omega) (by omega)
      rw [List.length_append, List.length_singleton, show k + ((numD 10 (u / 10)).length + 1) = (k + 1) + (numD 10 (u / 10)).length by omega, i1]
      have := one (u / 10) (u % 10) (p + (numD 10 (u / 10)).length) k rest (by omega) (by omega) (by omega) (by
        have := congrArg (List.drop (numD 10 (u / 10)).length) hsd
        rw [List.drop_drop, List.drop_left] at this
        exact this)
      rw [this, show u / 10 * 10 + u % 10 = u by omega, Nat.add_assoc]
theorem cnumber_ok (k : Nat) (n : Int) (h : 0 ≤ n ∧ n < 4294967296) (hk : 20 ≤ k) : community_number.f k (Lib.itoa n) = some n := by
  rw [itoa_nat n h.1, numD_dec]
  have hl := dec10 n.toNat (by omega)
  have h1 := numD_len (base := 10) (by decide) n.toNat
  have := cnumber_go (numD 10 n.toNat) n.toNat (k - (numD 10 n.toNat).length) 0 [] (by simp) (by omega) (by omega)
  rw [show k - (numD 10 n.toNat).length + (numD 10 n.toNat).length = k by omega, Nat.zero_add] at this
  unfold community_number.f
  obtain ⟨k', e⟩ : ∃ k', k - (numD 10 n.toNat).length = k' + 1 := ⟨k - (numD 10 n.toNat).length - 1, by omega⟩
  rw [this, e, community_number.l0, if_neg (by omega), Option.bind_some, show ((n.toNat : Nat) : Int) = n by omega]
theorem list8 (e : List Int) (h : e.length = 8) : ∃ a b c d p q r s : Int, e = [a, b, c, d, p, q, r, s] := by
  match e, h with
  | [a, b, c, d, p, q, r, s], _ => exact ⟨a, b, c, d, p, q, r, s, rfl⟩
def impA (e : List Int) : S_api_Addr := ⟨4, arC 16 zeros ((e.take 6).drop 2)⟩
def importR (e : List Int) : S_api_Addr × Int × Bool := if kindR e = 2 then (impA e, numL (e.drop 6) 0, true) else (⟨0, List.replicate 16 0⟩, 0, false)
def asR (e : List Int) : Int × Bool := if kindR e = 3 then (numL ((e.take 6).drop 2) 0, true) else (0, false)
theorem rest_ok (e : List Int) (h : e.length = 8) : community_rest.f e = some ⟨⟨e.drop 2, false⟩⟩ := by
  unfold community_rest.f cursor_Open.f
  rw [if_pos (by decide), arL8 h, show Int.toNat (8 : Int) = 8 from rfl, ← h, List.take_length, clone_ok _ (by simp; omega)]
  rfl
theorem importer_ok (k : Nat) (e : List Int) (h : e.length = 8) : community_Importer.f (k + 5) e = some (importR e) := by
  unfold community_Importer.f importR
  rw [kind_ok, Option.bind_some]
  by_cases hk : kindR e = 2
  · rw [if_neg (by simp [hk]), if_pos hk, rest_ok e h, Option.bind_some, take_ok ⟨⟨e.drop 2, false⟩⟩ 4 (by simp; omega) rfl (by decide) (by simp; omega), Option.bind_some, of_ok, Option.bind_some]
    have l4 : ((e.drop 2).take (Int.toNat (4 : Int))).length = 4 := by simp; omega
    rw [l4, if_pos (by decide)]
    have n2 := num_ok k ⟨⟨(e.drop 2).drop (Int.toNat (4 : Int)), false⟩⟩ 2 rfl (by decide) (by decide) (by simp; omega)
    simp only [n2, Option.bind_some]
    have t1 : (e.drop 2).take (Int.toNat (4 : Int)) = (e.take 6).drop 2 := by rw [List.drop_take]; rfl
    have t2 : ((e.drop 2).drop (Int.toNat (4 : Int))).take (Int.toNat (2 : Int)) = e.drop 6 := by rw [List.drop_drop, List.take_of_length_le (by simp; omega)]; rfl
    rw [t2]
    unfold impA
    rw [t1]; rfl
  · rw [if_pos (by simpa using hk), if_neg hk]
theorem as_ok (k : Nat) (e : List Int) (h : e.length = 8) : community_AS.f (k + 5) e = some (asR e) := by
  unfold community_AS.f asR
  rw [kind_ok, Option.bind_some]
  by_cases hk : kindR e = 3
  · rw [if_neg (by simp [hk]), if_pos hk, rest_ok e h, Option.bind_some]
    have n2 := num_ok k ⟨⟨e.drop 2, false⟩⟩ 4 rfl (by decide) (by decide) (by simp; omega)
    simp only [n2, Option.bind_some]
    rw [List.drop_take]; rfl
  · rw [if_pos (by simpa using hk), if_neg hk]
def rdC (e : List Int) : List Int := 0 :: ar e 0 :: e.drop 2
def textC (e : List Int) : List UInt8 := if kindR e = 1 then [114, 116, 58] ++ textD (rdC e) else if kindR e = 2 then (([105, 109, 112, 111, 114, 116, 58] ++ textA (impA e)) ++ [58]) ++ Lib.itoa (numL (e.drop 6) 0) else if kindR e = 3 then [115, 111, 117, 114, 99, 101, 58] ++ Lib.itoa (numL ((e.take 6).drop 2) 0) else [111, 116, 104, 101, 114, 58] ++ hex8 e
theorem rdC_ok (e : List Int) (h : e.length = 8) (hB : isB e) : (rdC e).length = 8 ∧ isB (rdC e) := by
  obtain ⟨a, b, c, d, p, q, r, s, rfl⟩ := list8 e h
  refine ⟨rfl, fun y hy => ?_⟩
  simp [rdC, ar] at hy
  rcases hy with rfl | rfl | rfl | rfl | rfl | rfl | rfl | rfl
  · decide
  all_goals exact hB _ (by simp)
theorem impA_ok (e : List Int) (h : e.length = 8) (hB : isB e) : adrB (impA e) ∧ rightB (impA e) = true ∧ rootL (impA e) = (e.take 6).drop 2 := by
  obtain ⟨a, b, c, d, p, q, r, s, rfl⟩ := list8 e h
  refine ⟨⟨fun y hy => ?_, rfl⟩, by unfold impA; kernel_rfl, by unfold impA; kernel_rfl⟩
  have : (impA [a, b, c, d, p, q, r, s]).B = [c, d, p, q, 0, 0, 0, 0, 0, 0, 0, 0, 0, 0, 0, 0] := rfl
  rw [this] at hy
  simp at hy
  rcases hy with rfl | rfl | rfl | rfl | rfl
  · exact hB _ (by simp)
  · exact hB _ (by simp)
  · exact hB _ (by simp)
  · exact hB _ (by simp)
  · decide
theorem num2_range (e : List Int) (h : e.length = 8) (hB : isB e) : 0 ≤ numL (e.drop 6) 0 ∧ numL (e.drop 6) 0 < 65536 ∧ putL (numL (e.drop 6) 0) 2 = e.drop 6 := by
  have hl : (e.drop 6).length = 2 := by simp; omega
  have := put_num (e.drop 6) (by omega) (by omega) (fun y hy => hB y (List.mem_of_mem_drop hy))
  rw [hl] at this
  exact this
theorem num4_range (e : List Int) (h : e.length = 8) (hB : isB e) : 0 ≤ numL ((e.take 6).drop 2) 0 ∧ numL ((e.take 6).drop 2) 0 < 4294967296 ∧ putL (numL ((e.take 6).drop 2) 0) 4 = (e.take 6).drop 2 := by
  have hl : ((e.take 6).drop 2).length = 4 := by simp; omega
  have := put_num ((e.take 6).drop 2) (by omega) (by omega) (fun y hy => hB y (List.mem_of_mem_take (List.mem_of_mem_drop hy)))
  rw [hl] at this
  exact this
theorem textC_ok (k : Nat) (e : List Int) (h : e.length = 8) (hB : isB e) (hk : 3000 ≤ k) : community_Text.f k e = some (textC e) := by
  obtain ⟨k', rfl⟩ : ∃ k', k = k' + 5 := ⟨k - 5, by omega⟩
  unfold community_Text.f textC
  rw [kind_ok, Option.bind_some]
  by_cases k1 : kindR e = 1
  · have hd := rdC_ok e h hB
    rw [if_pos (by simp [k1]), if_pos (by decide), if_pos k1]
    have er : ((arL 8 ([(0 : Int), ar e 0, (0 : Int), (0 : Int), (0 : Int), (0 : Int), (0 : Int), (0 : Int)] : List Int)).take 2 ++ arC 6 ((arL 8 ([(0 : Int), ar e 0, (0 : Int), (0 : Int), (0 : Int), (0 : Int), (0 : Int), (0 : Int)] : List Int)).drop 2) (((arL 8 e).take (Int.toNat (8 : Int))).drop (Int.toNat (2 : Int)))) = rdC e := by
      obtain ⟨a, b, c, d, p, q, r, s, rfl⟩ := list8 e h
      kernel_rfl
    rw [er, textd_ok _ _ hd.1 hd.2 (by omega), Option.bind_some, if_pos]
    have := textD_len _ hd.1 hd.2
    simp only [List.length_append, List.length_cons, List.length_nil]; omega
  · rw [if_neg (by simpa using k1), if_neg k1]
    by_cases k2 : kindR e = 2
    · have ha := impA_ok e h hB
      have hn := num2_range e h hB
      have hl := textA_len _ ha.1
      have hi := itoa_10 _ ⟨hn.1, by omega⟩
      have hI : importR e = (impA e, numL (e.drop 6) 0, true) := by unfold importR; rw [if_pos k2]
      rw [if_pos (by simp [k2]), if_pos k2, importer_ok k' e h, Option.bind_some, hI, text_any _ _ ha.1 (by omega), Option.bind_some, if_pos (by simp; omega), if_pos (by simp; omega), itoa_f64 _ hn.1 (by omega), Option.bind_some, if_pos (by simp; omega)]
    · rw [if_neg (by simpa using k2), if_neg k2]
      by_cases k3 : kindR e = 3
      · have hn := num4_range e h hB
        have hi := itoa_10 _ ⟨hn.1, hn.2.1⟩
        have hA : asR e = (numL ((e.take 6).drop 2) 0, true) := by unfold asR; rw [if_pos k3]
        rw [if_pos (by simp [k3]), if_pos k3, as_ok k' e h, Option.bind_some, hA, itoa_f64 _ hn.1 hn.2.1, Option.bind_some, if_pos (by simp; omega)]
      · rw [if_neg (by simpa using k3), if_neg k3]
        obtain ⟨r, h1, h2⟩ := ctext_l0 e h hB 8 0 (k' + 5) [111, 116, 104, 101, 114, 58] rfl (by omega) (by simp)
        rw [show ((0 : Nat) : Int) = 0 from rfl] at h1
        rw [h1, Option.bind_some, h2, List.drop_zero]; rfl
def vE (e : List Int) : Prop := e.length = 8 ∧ isB e
def checkC (t : List Int × Int) (s : List UInt8) : List Int × Int := if t.2 = 0 ∧ textC t.1 = s then (t.1, 0) else (z8c, 4)
theorem fin_ok (k : Nat) (t : List Int × Int) (hv : vE t.1) (s : List UInt8) (hk : 3000 ≤ k) : (((if (t.2 != (0 : Int)) = true then some (true : Bool) else (community_Text.f k t.1).bind fun t36 => some (!((bstr t36).toList == (bstr s).toList) : Bool))).bind fun s27 => (if s27 = true then some ((([(0 : Int), (0 : Int), (0 : Int), (0 : Int), (0 : Int), (0 : Int), (0 : Int), (0 : Int)] : List Int) : List Int), ((4 : Int) : Int)) else some ((t.1 : List Int), ((0 : Int) : Int)))) = some (checkC t s) := by
  unfold checkC
  rw [textC_ok k t.1 hv.1 hv.2 hk, Option.bind_some, bstr_toList, bstr_toList]
  by_cases h0 : t.2 = 0
  · rw [if_neg (by simp [h0]), Option.bind_some]
    by_cases hs : textC t.1 = s
    · rw [if_neg (by simp [hs]), if_pos ⟨h0, hs⟩]
    · rw [if_pos (by simpa using hs), if_neg (fun h => hs h.2)]; rfl
  · rw [if_pos (by simpa using h0), Option.bind_some, if_pos rfl, if_neg (fun h => h0 h.1)]; rfl
theorem isB_putL (n : Int) (s : Nat) : isB (putL n s) := by
  intro y hy
  unfold putL at hy
  split at hy <;> simp at hy <;> omega
theorem isB_cons {x : Int} {l : List Int} (h : 0 ≤ x ∧ x ≤ 255) (hl : isB l) : isB (x :: l) := fun y hy => by
  rcases List.mem_cons.1 hy with rfl | hy
  · exact h
  · exact hl y hy
theorem isB_app {l m : List Int} (hl : isB l) (hm : isB m) : isB (l ++ m) := fun y hy => (List.mem_append.1 hy).elim (hl y) (hm y)
theorem vz8 : vE z8c := ⟨rfl, isB_rep 8⟩
theorem makeR_isB (a b c : Int) : isB (makeR a b c).1 := by
  unfold makeR
  split
  · exact isB_rep 8
  · split
    · exact isB_app (isB_app (isB_putL _ _) (isB_putL _ _)) (isB_putL _ _)
    · exact isB_rep 8
theorem targ_v (a b c : Int) : vE (targR a b c).1 := by
  unfold targR
  split
  · refine ⟨by simp [makeR_len], isB_cons (by rw [IntKind.wrap_u8]; omega) (isB_cons (by decide) fun y hy => makeR_isB a b c y (List.mem_of_mem_drop hy))⟩
  · exact vz8
theorem root_isB (a : S_api_Addr) (h : adrB a) : isB (rootL a) := fun y hy => by
  unfold rootL at hy
  have e : arL 16 a.B = a.B := by have := arL_self a.B; rwa [h.2] at this
  rw [e] at hy
  exact h.1 y (List.mem_of_mem_take hy)
theorem imp_v (a : S_api_Addr) (h : adrB a) (n : Int) : vE (impR a n).1 := by
  unfold impR
  split
  · rename_i hr
    split
    · have := rootL_length a hr.1
      exact ⟨by simp [putL]; omega, isB_cons (by decide) (isB_cons (by decide) (isB_app (root_isB a h) (isB_putL _ _)))⟩
    · exact vz8
  · exact vz8
theorem src_v (n : Int) : vE (srcR n).1 := by
  unfold srcR
  split
  · exact ⟨by simp [putL], isB_cons (by decide) (isB_cons (by decide) (isB_app (isB_putL _ _) (isB_rep 2)))⟩
  · exact vz8
theorem kind1 {e : List Int} (h : kindR e = 1) : ar e 1 = 2 ∧ ar e 0 ≤ 2 := by
  unfold kindR at h
  split at h
  · assumption
  · split at h
    · cases h
    · split at h <;> cases h
theorem kind2 {e : List Int} (h : kindR e = 2) : ar e 1 = 11 ∧ ar e 0 = 1 := by
  unfold kindR at h
  split at h
  · cases h
  · split at h
    · assumption
    · split at h <;> cases h
theorem or_0 (x y : Int) (hx : 0 ≤ x ∧ x ≤ 255) (hy : 0 ≤ y ∧ y ≤ 255) : (IntKind.u8.wrap (BitVec.ofInt IntKind.u8.bits x ||| BitVec.ofInt IntKind.u8.bits y).toNat = 0) ↔ x = 0 ∧ y = 0 := by
  have h1 : (x % ((2 ^ 8 : Nat) : Int)).toNat = x.toNat := by
    have : ((2 ^ 8 : Nat) : Int) = 256 := rfl
    omega
  have h2 : (y % ((2 ^ 8 : Nat) : Int)).toNat = y.toNat := by
    have : ((2 ^ 8 : Nat) : Int) = 256 := rfl
    omega
  have hlt : x.toNat ||| y.toNat < 2 ^ 8 := Nat.or_lt_two_pow (by omega) (by omega)
  rw [BitVec.toNat_or, BitVec.toNat_ofInt, BitVec.toNat_ofInt, show IntKind.u8.bits = 8 from rfl, h1, h2, IntKind.wrap_u8]
  constructor
  · intro h
    have : x.toNat ||| y.toNat = 0 := by omega
    rw [Nat.or_eq_zero_iff] at this
    omega
  · rintro ⟨rfl, rfl⟩; rfl
theorem kind3 {e : List Int} (hB : isB e) (h : kindR e = 3) : ar e 1 = 9 ∧ ar e 0 = 2 ∧ ar e 6 = 0 ∧ ar e 7 = 0 := by
  unfold kindR at h
  split at h
  · cases h
  · split at h
    · cases h
    · split at h
      · rename_i h3
        exact ⟨h3.1, h3.2.1, (or_0 _ _ (ar_isB hB 6) (ar_isB hB 7)).1 h3.2.2⟩
      · cases h
theorem targ_back (e : List Int) (hv : vE e) (h : kindR e = 1) : targR (partsR (rdC e)).1 (partsR (rdC e)).2.1 (partsR (rdC e)).2.2.1 = (e, 0) := by
  obtain ⟨h1, h0⟩ := kind1 h
  have hd := rdC_ok e hv.1 hv.2
  have b0 := ar_isB hv.2 0
  have c0 : ar e 0 = 0 ∨ ar e 0 = 1 ∨ ar e 0 = 2 := by omega
  have n1 : numL ((rdC e).take 2) 0 = ar e 0 := by
    show numL [0, ar e 0] 0 = ar e 0
    rcases c0 with h | h | h <;> rw [h] <;> rfl
  have hs : hiS (ar e 0) ≠ 0 := by rcases c0 with h | h | h <;> rw [h] <;> decide
  have hp : (partsR (rdC e)).2.2.2 = true := by unfold partsR; rw [n1, if_neg hs]
  have p1 : (partsR (rdC e)).1 = ar e 0 := by unfold partsR; rw [n1, if_neg hs]
  obtain ⟨q1, q2, q3⟩ := parts_back hd.1 hd.2 hp
  unfold targR makeR
  rw [if_neg q1, if_pos q2, if_pos rfl, q3, p1]
  obtain ⟨a, b, c, d, p, q, r, s, rfl⟩ := list8 e hv.1
  have h1 : b = 2 := h1
  have w : IntKind.u8.wrap (ar [a, b, c, d, p, q, r, s] 0) = a := by
    show IntKind.u8.wrap a = a
    have b0 : 0 ≤ a ∧ a ≤ 255 := b0
    rw [IntKind.wrap_u8]; omega
  rw [w, h1]; rfl
theorem imp_back (e : List Int) (hv : vE e) (h : kindR e = 2) : impR (impA e) (numL (e.drop 6) 0) = (e, 0) := by
  obtain ⟨h1, h0⟩ := kind2 h
  obtain ⟨ha, hr, hroot⟩ := impA_ok e hv.1 hv.2
  have hn := num2_range e hv.1 hv.2
  unfold impR
  rw [if_pos ⟨hr, rfl⟩, if_pos ⟨hn.1, hn.2.1⟩, hroot, hn.2.2]
  obtain ⟨a, b, c, d, p, q, r, s, rfl⟩ := list8 e hv.1
  have h1 : b = 11 := h1
  have h0 : a = 1 := h0
  rw [h1, h0]; rfl
theorem src_back (e : List Int) (hv : vE e) (h : kindR e = 3) : srcR (numL ((e.take 6).drop 2) 0) = (e, 0) := by
  obtain ⟨h1, h0, h6, h7⟩ := kind3 hv.2 h
  have hn := num4_range e hv.1 hv.2
  unfold srcR
  rw [if_pos ⟨hn.1, hn.2.1⟩, hn.2.2]
  obtain ⟨a, b, c, d, p, q, r, s, rfl⟩ := list8 e hv.1
  have h1 : b = 9 := h1
  have h0 : a = 2 := h0
  have h6 : r = 0 := h6
  have h7 : s = 0 := h7
  rw [h1, h0, h6, h7]; rfl
def sRt : List UInt8 := [114, 116]
def sImp : List UInt8 := [105, 109, 112, 111, 114, 116]
def sSrc : List UInt8 := [115, 111, 117, 114, 99, 101]
def sOth : List UInt8 := [111, 116, 104, 101, 114]
theorem cutC (e : List Int) : (kindR e = 1 ∧ Lib.cut (textC e) [58] = (sRt, textD (rdC e), true)) ∨ (kindR e = 2 ∧ Lib.cut (textC e) [58] = (sImp, textA (impA e) ++ 58 :: Lib.itoa (numL (e.drop 6) 0), true)) ∨ (kindR e = 3 ∧ Lib.cut (textC e) [58] = (sSrc, Lib.itoa (numL ((e.take 6).drop 2) 0), true)) ∨ ((kindR e ≠ 1 ∧ kindR e ≠ 2 ∧ kindR e ≠ 3) ∧ Lib.cut (textC e) [58] = (sOth, hex8 e, true)) := by
  unfold textC
  by_cases k1 : kindR e = 1
  · refine .inl ⟨k1, ?_⟩
    rw [if_pos k1]
    exact cut_app (a := sRt) _ (by decide)
  · rw [if_neg k1]
    by_cases k2 : kindR e = 2
    · refine .inr (.inl ⟨k2, ?_⟩)
      rw [if_pos k2, List.append_assoc, List.append_assoc]
      exact cut_app (a := sImp) _ (by decide)
    · rw [if_neg k2]
      by_cases k3 : kindR e = 3
      · refine .inr (.inr (.inl ⟨k3, ?_⟩))
        rw [if_pos k3]
        exact cut_app (a := sSrc) _ (by decide)
      · refine .inr (.inr (.inr ⟨⟨k1, k2, k3⟩, ?_⟩))
        rw [if_neg k3]
        exact cut_app (a := sOth) _ (by decide)
theorem cutf (s : List UInt8) (hs : s.length ≤ 1048576) : strings_Cut.f s [58] = some (Lib.cut s [58]) := if_pos (by omega)
theorem cparse_any (k : Nat) (s : List UInt8) (hs : s.length ≤ 1048576) (hk : 2005000 ≤ k) : ∃ t : List Int × Int, vE t.1 ∧ community_Parse.f k s = some (checkC t s) ∧ ∀ e, vE e → textC e = s → t = (e, 0) := by
  have hc := cut_le s [58]
  unfold community_Parse.f
  rw [cutf s hs, Option.bind_some, bstr_toList (Lib.cut s [58]).1, bstr_toList [114, 116], bstr_toList [105, 109, 112, 111, 114, 116], bstr_toList [115, 111, 117, 114, 99, 101]]
  by_cases w1 : (Lib.cut s [58]).1 = sRt
  · rw [if_pos (by rw [w1]; decide)]
    obtain ⟨d, err, q1, ld, bd, _⟩ := rdparse_any k (Lib.cut s [58]).2.1 (by omega) (by omega)
    rw [q1, Option.bind_some]
    have q2 := parts_ok (k - 20) d ld
    have q3 := targ_ok (k - 20) (partsR d).1 (partsR d).2.1 (partsR d).2.2.1
    rw [show k - 20 + 20 = k by omega] at q2 q3
    simp only [q2, Option.bind_some, q3]
    refine ⟨_, targ_v _ _ _, fin_ok k _ (targ_v _ _ _) s (by omega), fun e hv he => ?_⟩
    subst he
    rcases cutC e with ⟨k1, hc⟩ | ⟨_, hc⟩ | ⟨_, hc⟩ | ⟨_, hc⟩
    · rw [hc] at q1
      have hd := rdC_ok e hv.1 hv.2
      rw [rdparse_text k _ hd.1 hd.2 (by omega)] at q1
      obtain rfl := (Prod.mk.inj (Option.some.inj q1)).1
      exact targ_back e hv k1
    · rw [hc] at w1; exact absurd (show sImp = sRt from w1) (by decide)
    · rw [hc] at w1; exact absurd (show sSrc = sRt from w1) (by decide)
    · rw [hc] at w1; exact absurd (show sOth = sRt from w1) (by decide)
  rw [if_neg (show ¬ ((Lib.cut s [58]).1 == ([114, 116] : List UInt8)) = true by simpa [sRt] using w1)]
  by_cases w2 : (Lib.cut s [58]).1 = sImp
  · rw [if_pos (by rw [w2]; decide)]
    have hc2 := cut_le (Lib.cut s [58]).2.1 [58]
    rw [cutf _ (by omega), Option.bind_some]
    obtain ⟨a, err, q1, ha, _⟩ := parse_any k (Lib.cut (Lib.cut s [58]).2.1 [58]).1 (by omega) (by omega)
    obtain ⟨n, q2⟩ := cnumber_any k (Lib.cut (Lib.cut s [58]).2.1 [58]).2.1 (by omega) (by omega)
    have q3 := imp_ok (k - 20) a n
    rw [show k - 20 + 20 = k by omega] at q3
    simp only [q1, q2, Option.bind_some, q3]
    refine ⟨_, imp_v _ ha _, fin_ok k _ (imp_v _ ha _) s (by omega), fun e hv he => ?_⟩
    subst he
    rcases cutC e with ⟨_, hc⟩ | ⟨k2, hc⟩ | ⟨_, hc⟩ | ⟨_, hc⟩
    · rw [hc] at w2; exact absurd (show sRt = sImp from w2) (by decide)
    · obtain ⟨ia, ir, _⟩ := impA_ok e hv.1 hv.2
      have hn := num2_range e hv.1 hv.2
      have hf : (58 : UInt8) ∉ textA (impA e) := by
        unfold textA
        rw [if_pos ir, if_pos (show (impA e).Size = 4 from rfl)]
        exact txt4_free _ ia.1
      have e1 : (Lib.cut (textC e) [58]).2.1 = textA (impA e) ++ 58 :: Lib.itoa (numL (e.drop 6) 0) := by rw [hc]
      rw [e1, cut_app _ hf] at q1 q2
      simp only at q1 q2
      rw [parse_text k _ ia ir (by omega)] at q1
      rw [cnumber_ok k _ ⟨hn.1, by omega⟩ (by omega)] at q2
      obtain rfl := (Prod.mk.inj (Option.some.inj q1)).1
      obtain rfl := Option.some.inj q2
      exact imp_back e hv k2
    · rw [hc] at w2; exact absurd (show sSrc = sImp from w2) (by decide)
    · rw [hc] at w2; exact absurd (show sOth = sImp from w2) (by decide)
  rw [if_neg (show ¬ ((Lib.cut s [58]).1 == ([105, 109, 112, 111, 114, 116] : List UInt8)) = true by simpa [sImp] using w2)]
  by_cases w3 : (Lib.cut s [58]).1 = sSrc
  · rw [if_pos (by rw [w3]; decide)]
    obtain ⟨n, q2⟩ := cnumber_any k (Lib.cut s [58]).2.1 (by omega) (by omega)
    have q3 := src_ok (k - 20) n
    rw [show k - 20 + 20 = k by omega] at q3
    simp only [q2, Option.bind_some, q3]
    refine ⟨_, src_v _, fin_ok k _ (src_v _) s (by omega), fun e hv he => ?_⟩
    subst he
    rcases cutC e with ⟨_, hc⟩ | ⟨_, hc⟩ | ⟨k3, hc⟩ | ⟨_, hc⟩
    · rw [hc] at w3; exact absurd (show sRt = sSrc from w3) (by decide)
    · rw [hc] at w3; exact absurd (show sImp = sSrc from w3) (by decide)
    · have hn := num4_range e hv.1 hv.2
      rw [hc] at q2
      simp only at q2
      rw [cnumber_ok k _ ⟨hn.1, hn.2.1⟩ (by omega)] at q2
      obtain rfl := Option.some.inj q2
      exact src_back e hv k3
    · rw [hc] at w3; exact absurd (show sOth = sSrc from w3) (by decide)
  rw [if_neg (show ¬ ((Lib.cut s [58]).1 == ([115, 111, 117, 114, 99, 101] : List UInt8)) = true by simpa [sSrc] using w3)]
  obtain ⟨d, q1, ld, bd⟩ := rawf_any k (Lib.cut s [58]).2.1 (by omega) (by omega)
  rw [q1, Option.bind_some]
  refine ⟨(d, 0), ⟨ld, bd⟩, fin_ok k (d, 0) ⟨ld, bd⟩ s (by omega), fun e hv he => ?_⟩
  subst he
  rcases cutC e with ⟨_, hc⟩ | ⟨_, hc⟩ | ⟨_, hc⟩ | ⟨_, hc⟩
  · rw [hc] at w1; exact absurd rfl w1
  · rw [hc] at w2; exact absurd rfl w2
  · rw [hc] at w3; exact absurd rfl w3
  · rw [hc] at q1
    simp only at q1
    rw [raw_ok k e hv.1 hv.2 (by omega)] at q1
    obtain rfl := Option.some.inj q1
    rfl
def allv (l : List (List Int)) : Prop := ∀ y ∈ l, vE y
theorem flat8 : ∀ (l : List (List Int)), allv l → (l.flatten).length = 8 * l.length
  | [], _ => rfl
  | x :: l, h => by
    rw [List.flatten_cons, List.length_append, flat8 l (fun y hy => h y (List.mem_cons_of_mem _ hy)), (h x (List.mem_cons_self)).1, List.length_cons]; omega
theorem bytes_l0 (l : List (List Int)) (hv : allv l) (hl : l.length * 8 ≤ 140737488351232) : ∀ (m i k : Nat) (out : List Int), i + m = l.length → m < k → out.length = 8 * i → community_Bytes.l0 l k out (i : Int) = some (out ++ (l.drop i).flatten)
  | 0, i, k + 1, out, hi, _, _ => by rw [community_Bytes.l0, if_neg (by simp; omega), List.drop_eq_nil_of_le (by omega)]; simp
  | m + 1, i, k + 1, out, hi, hk, ho => by
    have hil : i < l.length := by omega
    have hx := hv l[i] (List.getElem_mem hil)
    have e : IntKind.i64.wrap ((i : Int) + 1) = ((i + 1 : Nat) : Int) := by rw [IntKind.wrap_i64]; omega
    rw [community_Bytes.l0, if_pos (by simp; omega), if_pos (by omega), rdx l i hil, arL8 hx.1, if_pos (by rw [hx.1]; omega), e, bytes_l0 l hv hl m (i + 1) k _ (by omega) (by omega) (by rw [List.length_append, hx.1]; omega), List.drop_eq_getElem_cons hil, List.flatten_cons, List.append_assoc]
theorem bytes_ok (k : Nat) (l : List (List Int)) (hv : allv l) (hl : l.length * 8 ≤ 140737488351232) (hk : l.length < k) : community_Bytes.f k l = some l.flatten := by
  have := bytes_l0 l hv hl l.length 0 k [] (by omega) hk rfl
  unfold community_Bytes.f
  rw [show ((0 : Int)) = ((0 : Nat) : Int) from rfl, this, Option.bind_some, List.drop_zero, List.nil_append]
theorem arC8c (x : List Int) (h : x.length = 8) : arC 8 (List.replicate 8 (0 : Int)) x = x := by
  obtain ⟨a, b, c, d, p, q, r, s, rfl⟩ := list8 x h
  rfl
theorem read_l0 : ∀ (r : List (List Int)) (acc : List (List Int)) (k : Nat), allv r → (acc.length + r.length) * 8 ≤ 140737488351232 → r.length < k → community_Read.l0 k acc r.flatten false = some (acc ++ r, [], false)
  | [], acc, k + 1, _, _, _ => by
    rw [community_Read.l0, left_f]; simp
  | x :: r, acc, k + 1, hv, hl, hk => by
    have hx := hv x (List.mem_cons_self)
    have hr : allv r := fun y hy => hv y (List.mem_cons_of_mem _ hy)
    have fl := flat8 r hr
    rw [List.length_cons] at hl hk
    have len : (x ++ r.flatten).length = 8 + 8 * r.length := by rw [List.length_append, hx.1, fl]
    rw [community_Read.l0, left_f, Option.bind_some, List.flatten_cons]
    simp only [Bool.false_eq_true, if_false]
    rw [if_pos (by rw [len]; simp; omega), take_ok ⟨⟨x ++ r.flatten, false⟩⟩ 8 (by show (x ++ r.flatten).length ≤ _; omega) rfl (by decide) (by show (8 : Int) ≤ ((x ++ r.flatten).length : Int); omega), Option.bind_some]
    have t1 : (x ++ r.flatten).take (Int.toNat (8 : Int)) = x := by rw [show Int.toNat (8 : Int) = x.length from hx.1.symm, List.take_left]
    have t2 : (x ++ r.flatten).drop (Int.toNat (8 : Int)) = r.flatten := by rw [show Int.toNat (8 : Int) = x.length from hx.1.symm, List.drop_left]
    simp only [t1, t2]
    rw [if_pos (by simp only [List.length_singleton]; omega), arC8c x hx.1, read_l0 r (acc ++ [x]) k hr (by simp; omega) (by omega)]
    simp
theorem read_ok (k : Nat) (r : List (List Int)) (hv : allv r) (hl : r.length * 8 ≤ 140737488351232) (hk : r.length < k) : community_Read.f k r.flatten = some (r, 0) := by
  have fl := flat8 r hv
  unfold community_Read.f cursor_Open.f
  have e : Int.tmod ((r.flatten).length : Int) 8 = 0 := by
    rw [fl, show Int.tmod (((8 * r.length : Nat)) : Int) 8 = (((8 * r.length) % 8 : Nat) : Int) from rfl]; omega
  rw [e, if_neg (by decide), clone_ok _ (by omega), Option.bind_some, Option.bind_some]
  simp only
  rw [read_l0 r [] k hv (by simp; omega) hk, Option.bind_some, List.nil_append]
theorem same_l0 (l : List (List Int)) (hl : l.length ≤ 140737488351232) : ∀ (m k i : Nat), i + m = l.length → m < k → vineryref04_Same.l0 l l k (i : Int) = some (.inr ())
  | 0, k + 1, i, h, _ => by rw [vineryref04_Same.l0, if_neg (by simp; omega)]
  | m + 1, k + 1, i, h, hk => by
    have hi : i < l.length := by omega
    have e : IntKind.i64.wrap ((i : Int) + 1) = ((i + 1 : Nat) : Int) := by rw [IntKind.wrap_i64]; omega
    rw [vineryref04_Same.l0, if_pos (by simp; omega), if_pos (by omega), if_pos (by omega), es8, if_neg (by decide), e, same_l0 l hl m k (i + 1) (by omega) (by omega)]
theorem same_self (k : Nat) (l : List (List Int)) (hl : l.length ≤ 140737488351232) (hk : l.length < k) : vineryref04_Same.f k l l = some true := by
  unfold vineryref04_Same.f
  rw [if_neg (by simp), show ((0 : Int)) = ((0 : Nat) : Int) from rfl, same_l0 l hl l.length k 0 (by omega) hk]
  rfl
theorem okA_vE {e : List Int} (h : okA .u8 8 e) : vE e := ⟨h.1, okA_isB h⟩
theorem textC_len (e : List Int) (hv : vE e) : (textC e).length ≤ 100000 := by
  have hd := rdC_ok e hv.1 hv.2
  have l1 := textD_len _ hd.1 hd.2
  have l2 := textA_len _ (impA_ok e hv.1 hv.2).1
  have n2 := num2_range e hv.1 hv.2
  have n4 := num4_range e hv.1 hv.2
  have l3 := itoa_10 _ ⟨n2.1, show numL (e.drop 6) 0 < 4294967296 by omega⟩
  have l4 := itoa_10 _ ⟨n4.1, n4.2.1⟩
  have l5 := hex8_len e
  have le := hv.1
  unfold textC
  split
  · simp only [List.length_append, List.length_cons, List.length_nil]; omega
  · split
    · simp only [List.length_append, List.length_cons, List.length_nil]; omega
    · split
      · simp only [List.length_append, List.length_cons, List.length_nil]; omega
      · simp only [List.length_append, List.length_cons, List.length_nil]; omega
theorem imp_tells (a : S_api_Addr) (ha : adrB a) (n : Int) (h : (impR a n).2 = 0) : importR (impR a n).1 = (a, n, true) ∧ kindR (impR a n).1 = 2 := by
  unfold impR at h ⊢
  by_cases hr : rightB a = true ∧ a.Size = 4
  · rw [if_pos hr] at h ⊢
    by_cases hn : 0 ≤ n ∧ n < 65536
    · rw [if_pos hn]
      have hl := rootL_length a hr.1
      have hk : kindR (1 :: 11 :: (rootL a ++ putL n 2)) = 2 := by
        unfold kindR
        rw [if_neg (fun e => absurd e.1 (by simp [ar])), if_pos ⟨by simp [ar], by simp [ar]⟩]
      refine ⟨?_, hk⟩
      unfold importR
      simp only
      rw [if_pos hk]
      have l4 : (rootL a).length = 4 := by omega
      have e1 : ((1 :: 11 :: (rootL a ++ putL n 2)).take 6).drop 2 = rootL a := by
        show ((rootL a ++ putL n 2).take 4) = rootL a
        rw [← l4, List.take_left]
      have e2 : (1 :: 11 :: (rootL a ++ putL n 2)).drop 6 = putL n 2 := by
        show (rootL a ++ putL n 2).drop 4 = putL n 2
        rw [← l4, List.drop_left]
      have hb := root_back a hr.1 ha.2
      rw [l4] at hb
      unfold impA
      rw [e1, e2, num_put n 2 (by omega) (by omega) hn.1 (by omega)]
      rw [show ((4 : Nat) : Int) = 4 from rfl] at hb
      rw [hb]
    · rw [if_neg hn] at h; exact absurd h (by decide)
  · rw [if_neg hr] at h; exact absurd h (by decide)
theorem src_tells (n : Int) (h : (srcR n).2 = 0) : asR (srcR n).1 = (n, true) ∧ kindR (srcR n).1 = 3 := by
  unfold srcR at h ⊢
  by_cases hn : 0 ≤ n ∧ n < 4294967296
  · rw [if_pos hn]
    have hk : kindR (2 :: 9 :: (putL n 4 ++ [0, 0])) = 3 := by
      unfold kindR
      rw [if_neg (fun e => absurd e.1 (by simp [ar])), if_neg (fun e => absurd e.1 (by simp [ar])), if_pos]
      have z6 : ar (2 :: 9 :: (putL n 4 ++ [0, 0])) 6 = 0 := rfl
      have z7 : ar (2 :: 9 :: (putL n 4 ++ [0, 0])) 7 = 0 := rfl
      exact ⟨by simp [ar], by simp [ar], by rw [z6, z7]; decide⟩
    refine ⟨?_, hk⟩
    unfold asR
    simp only
    rw [if_pos hk]
    have e1 : ((2 :: 9 :: (putL n 4 ++ [0, 0])).take 6).drop 2 = putL n 4 := rfl
    rw [e1, num_put n 4 (by omega) (by omega) hn.1 (by omega)]
  · rw [if_neg hn] at h; exact absurd h (by decide)
theorem eq_refl_addr (a : S_api_Addr) : ((a.Size == a.Size) && ((eqA 16 a.B a.B) && true)) = true := by
  have : eqA 16 a.B a.B = true := (eqA_iff _ _ _).2 fun _ _ => rfl
  simp [this]
theorem CommunityBack.law (e : List Int) (he : okA .u8 8 e) (s : List UInt8) (hs : okS s) (hlen : s.length ≤ 1048576) (a : S_api_Addr) (ha : okS_api_Addr a) (n : Int) (hn : okI .i64 n) (l : List (List Int)) (hl : okL 8 (okA .u8 8) l) : ∃ k, vinerylaw04_CommunityBack.f k e s a n l = some true := by
  have hv := okA_vE he
  have hal : adrB a := ⟨okA_isB ha.2, ha.2.1⟩
  have hll : l.length * 8 ≤ 140737488351232 := by have := hl.1; unfold reachBytes at this; omega
  have hlv : allv l := fun y hy => okA_vE (hl.2 y hy)
  refine ⟨3000000 + l.length, ?_⟩
  generalize hk : 3000000 + l.length = k
  have e1 := small04 (k - 60)
  rw [show k - 60 + 60 = k by omega] at e1
  have e2 := textC_ok k e hv.1 hv.2 (by omega)
  obtain ⟨t, tv, e3, tb⟩ := cparse_any k (textC e) (by have := textC_len e hv; omega) (by omega)
  have ht := tb e hv rfl
  subst ht
  have c1 : checkC (e, 0) (textC e) = (e, 0) := by unfold checkC; rw [if_pos ⟨rfl, rfl⟩]
  rw [c1] at e3
  obtain ⟨u, uv, e4, _⟩ := cparse_any k s hlen (by omega)
  have e5 := imp_ok (k - 20) a n
  have e6 := importer_ok (k - 5) (impR a n).1 (imp_v a hal n).1
  have e7 := src_ok (k - 20) n
  have e8 := as_ok (k - 5) (srcR n).1 (src_v n).1
  rw [show k - 20 + 20 = k by omega] at e5 e7
  rw [show k - 5 + 5 = k by omega] at e6 e8
  have e9 := bytes_ok k l hlv hll (by omega)
  have e10 := read_ok k l hlv hll (by omega)
  have e11 := same_self k l (by omega) (by omega)
  have e12 := kind_ok (impR a n).1
  have e13 := kind_ok (srcR n).1
  unfold vinerylaw04_CommunityBack.f
  rw [e1, Option.bind_some, e2, Option.bind_some, e3, Option.bind_some]
  simp only
  rw [if_neg (by decide), Option.bind_some, es8, if_neg (by decide), e4, Option.bind_some]
  have b2 : (if ((checkC u s).2 == (0 : Int)) = true then (community_Text.f k (checkC u s).1).bind fun t94 => some (!((bstr t94).toList == (bstr s).toList) : Bool) else some (false : Bool)) = some false := by
    unfold checkC
    by_cases hc : u.2 = 0 ∧ textC u.1 = s
    · rw [if_pos hc, if_pos (show ((0 : Int) == 0) = true from rfl)]
      simp only
      rw [textC_ok k u.1 uv.1 uv.2 (by omega), Option.bind_some, hc.2]; simp
    · rw [if_neg hc, if_neg (by decide)]
  rw [b2, Option.bind_some, if_neg (by decide), e5, Option.bind_some, e6, Option.bind_some]
  have b3 : (if ((impR a n).2 == (0 : Int)) = true then (if (!(importR (impR a n).1).2.2) = true then some (true : Bool) else (if (!(((importR (impR a n).1).1.Size == a.Size) && ((eqA 16 (importR (impR a n).1).1.B a.B) && true))) = true then some (true : Bool) else (if ((importR (impR a n).1).2.1 != n) = true then some (true : Bool) else (community_Kind.f (impR a n).1).bind fun t92 => some (t92 != (2 : Int) : Bool)))) else some (false : Bool)) = some false := by
    by_cases h0 : (impR a n).2 = 0
    · obtain ⟨q1, q2⟩ := imp_tells a hal n h0
      rw [if_pos (by simp [h0]), q1, e12, q2]
      simp only
      rw [eq_refl_addr]
      simp
    · rw [if_neg (by simpa using h0)]
  rw [b3, Option.bind_some, if_neg (by decide), e7, Option.bind_some, e8, Option.bind_some]
  have b4 : (if ((srcR n).2 == (0 : Int)) = true then (if (!(asR (srcR n).1).2) = true then some (true : Bool) else (if ((asR (srcR n).1).1 != n) = true then some (true : Bool) else (community_Kind.f (srcR n).1).bind fun t87 => some (t87 != (3 : Int) : Bool))) else some (false : Bool)) = some false := by
    by_cases h0 : (srcR n).2 = 0
    · obtain ⟨q1, q2⟩ := src_tells n h0
      rw [if_pos (by simp [h0]), q1, e13, q2]
      simp
    · rw [if_neg (by simpa using h0)]
  rw [b4, Option.bind_some, if_neg (by decide), e9, Option.bind_some, e10, Option.bind_some]
  simp only
  rw [e11]
  rfl
end Go.E
