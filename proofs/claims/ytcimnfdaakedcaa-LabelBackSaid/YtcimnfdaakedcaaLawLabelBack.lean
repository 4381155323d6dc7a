/- The plain law: what the walk computes is true, whatever the input. -/
import Derived.Test.YtcimnfdaakedcaaGenLabelBack
import Derived.Test.YtcimnfdaakedcaaEngR
set_option linter.unusedVariables false
set_option linter.unusedSimpArgs false
namespace Go.E
theorem bstr_toList (l : List UInt8) : (bstr l).toList = l := by rw [ByteArray.toList_eq]; simp [bstr]
theorem w64 (n : Int) (h : -9223372036854775808 ≤ n ∧ n ≤ 9223372036854775807) : IntKind.i64.wrap n = n := by rw [IntKind.wrap_i64]; omega
def isB (l : List Int) : Prop := ∀ y ∈ l, 0 ≤ y ∧ y ≤ 255
theorem okL_len {α : Type} {c : Nat} {P : α → Prop} {l : List α} (h : okL c P l) : l.length ≤ 140737488351232 ∨ c = 0 := by
  have := h.1
  unfold reachBytes at this
  rcases Nat.eq_zero_or_pos c with h0 | h0
  · exact .inr h0
  · left
    have : l.length * 1 ≤ l.length * c := Nat.mul_le_mul_left _ h0
    omega
theorem okL_isB {l : List Int} (h : okL 1 (okI .u8) l) : isB l := fun y hy => by
  have := h.2 y hy
  have e1 : IntKind.u8.min = 0 := rfl
  have e2 : IntKind.u8.max = 255 := rfl
  unfold okI at this
  omega
theorem rd_at (l : List Int) (i : Nat) (hi : i < l.length) : rd l (i : Int) = l[i] := by simp [rd, List.getD, hi]
theorem ofI (n : Nat) (h : n < 9223372036854775808) : (BitVec.ofInt IntKind.i64.bits (n : Int)).toNat = n := by
  rw [BitVec.toNat_ofInt]
  show (_ % ((2 ^ 64 : Nat) : Int)).toNat = _
  omega
theorem sh4 (a : Int) (h0 : 0 ≤ a) (h1 : a ≤ 1048575) : IntKind.i64.wrap (a * 2 ^ (min (4 : Int).toNat IntKind.i64.bits)) = 16 * a := by
  have : (2 : Int) ^ (min (4 : Int).toNat IntKind.i64.bits) = 16 := rfl
  rw [this, w64 _ (by omega)]; omega
theorem or1 (a : Int) (h0 : 0 ≤ a) (h1 : a ≤ 1048575) : IntKind.i64.wrap (BitVec.ofInt IntKind.i64.bits (16 * a) ||| BitVec.ofInt IntKind.i64.bits (1 : Int)).toNat = 16 * a + 1 := by
  obtain ⟨m, rfl⟩ := Int.eq_ofNat_of_zero_le h0
  have e1 : (BitVec.ofInt IntKind.i64.bits (16 * (m : Int))).toNat = 2 ^ 4 * m := by
    rw [show (16 * (m : Int)) = ((2 ^ 4 * m : Nat) : Int) by omega]
    exact ofI _ (by omega)
  have e2 : (BitVec.ofInt IntKind.i64.bits (1 : Int)).toNat = 1 := rfl
  rw [BitVec.toNat_or, e1, e2, ← Nat.two_pow_add_eq_or_of_lt (show 1 < 2 ^ 4 by decide), w64 _ (by omega)]
  omega
theorem and15 (n : Int) (h0 : 0 ≤ n) (h : n < 9223372036854775808) : IntKind.i64.wrap (BitVec.ofInt IntKind.i64.bits n &&& BitVec.ofInt IntKind.i64.bits (15 : Int)).toNat = n % 16 := by
  obtain ⟨m, rfl⟩ := Int.eq_ofNat_of_zero_le h0
  have e2 : (BitVec.ofInt IntKind.i64.bits (15 : Int)).toNat = 2 ^ 4 - 1 := rfl
  rw [BitVec.toNat_and, ofI m (by omega), e2, Nat.and_two_pow_sub_one_eq_mod, w64 _ (by omega)]
  omega
theorem and1 (n : Int) (h0 : 0 ≤ n) (h : n < 9223372036854775808) : IntKind.i64.wrap (BitVec.ofInt IntKind.i64.bits n &&& BitVec.ofInt IntKind.i64.bits (1 : Int)).toNat = n % 2 := by
  obtain ⟨m, rfl⟩ := Int.eq_ofNat_of_zero_le h0
  have e2 : (BitVec.ofInt IntKind.i64.bits (1 : Int)).toNat = 2 ^ 1 - 1 := rfl
  rw [BitVec.toNat_and, ofI m (by omega), e2, Nat.and_two_pow_sub_one_eq_mod, w64 _ (by omega)]
  omega
theorem small05 (k : Nat) : vinerylaw05_small.f (k + 20) = some true := by
  unfold vinerylaw05_small.f
  simp only [bstr_toList]
  rfl
theorem clone_ok (l : List Int) (h : l.length ≤ 140737488355328) : bytes_Clone.f l = some l := if_pos h
theorem next_bad (r : S_cursor_rest) (n : Int) (h : r.bad = true ∨ n < 0 ∨ n > r.left.length) : cursor_rest_next.f r n = some ([], ⟨r.left, true⟩) := by
  unfold cursor_rest_next.f
  by_cases hb : r.bad = true
  · simp [hb]
  · by_cases h1 : n < 0
    · simp [hb, h1]
    · have h2 : (r.left.length : Int) < n := by rcases h with h | h | h <;> first | exact absurd h hb | exact absurd h h1 | exact h
      simp [hb, h1, h2]
theorem next_ok (r : S_cursor_rest) (n : Int) (hb : r.bad = false) (h0 : 0 ≤ n) (h1 : n ≤ r.left.length) : cursor_rest_next.f r n = some (r.left.take n.toNat, ⟨r.left.drop n.toNat, false⟩) := by
  unfold cursor_rest_next.f
  have e0 : ¬ n < 0 := by omega
  have e1 : ¬ (r.left.length : Int) < n := by omega
  simp [hb, e0, e1, h0, h1]
def numL : List Int → Int → Int
  | [], x => x
  | c :: l, x => numL l (IntKind.i64.wrap (BitVec.ofInt IntKind.i64.bits (IntKind.i64.wrap (x * 2 ^ (min (8 : Int).toNat IntKind.i64.bits))) ||| BitVec.ofInt IntKind.i64.bits (IntKind.i64.wrap c)).toNat)
theorem num_l0 (t : List Int × S_cursor_rest) (hl : t.1.length ≤ 140737488355328) : ∀ (m k i : Nat) (x : Int), m + i = t.1.length → m < k → cursor_Reader_Num.l0 t k x (i : Int) = some (numL (t.1.drop i) x)
  | 0, k + 1, i, x, h, _ => by
    unfold cursor_Reader_Num.l0
    rw [if_neg (by simp; omega), List.drop_of_length_le (by omega)]
    rfl
  | m + 1, k + 1, i, x, h, hk => by
    unfold cursor_Reader_Num.l0
    have hi : i < t.1.length := by omega
    have e : IntKind.i64.wrap ((i : Int) + 1) = ((i + 1 : Nat) : Int) := by rw [IntKind.wrap_i64]; omega
    rw [if_pos (by simpa using hi), if_pos (by omega), e, num_l0 t hl m k (i + 1) _ (by omega) (by omega), List.drop_eq_getElem_cons hi]
    have er : rd t.1 (i : Int) = t.1[i] := by simp [rd, List.getD, hi]
    rw [er]
    rfl
theorem num_bad (k : Nat) (r : S_cursor_Reader) (n : Int) (h : r.rest.bad = true ∨ n < 1 ∨ n > 4 ∨ n > r.rest.left.length) : cursor_Reader_Num.f (k + 1) r n = some (0, ⟨⟨r.rest.left, true⟩⟩) := by
  unfold cursor_Reader_Num.f
  have hl : cursor_Reader_Num.l0 ([], ⟨r.rest.left, true⟩) (k + 1) 0 0 = some 0 := by unfold cursor_Reader_Num.l0; simp
  by_cases hs : n < 1 ∨ n > 4
  · have : (if decide (n < 1) = true then true else decide (n > 4)) = true := by rcases hs with h | h <;> simp [h]
    rw [if_pos this, Option.bind_some, next_bad _ _ (by omega), Option.bind_some, hl]
    rfl
  · have h1 : ¬ n < 1 := fun e => hs (.inl e)
    have h2 : ¬ 4 < n := fun e => hs (.inr e)
    have : ¬ (if decide (n < 1) = true then true else decide (n > 4)) = true := by simp [h1, h2]
    rw [if_neg this, Option.bind_some, next_bad _ _ (by rcases h with h | h | h | h <;> first | exact .inl h | exact absurd h h1 | exact absurd h h2 | exact .inr (.inr h)), Option.bind_some, hl]
    rfl
theorem num_ok (k : Nat) (r : S_cursor_Reader) (n : Int) (hb : r.rest.bad = false) (h1 : 1 ≤ n) (h4 : n ≤ 4) (hn : n ≤ r.rest.left.length) :
    cursor_Reader_Num.f (k + 5) r n = some (numL (r.rest.left.take n.toNat) 0, ⟨⟨r.rest.left.drop n.toNat, false⟩⟩) := by
  unfold cursor_Reader_Num.f
  have e1 : ¬ n < 1 := by omega
  have e4 : ¬ 4 < n := by omega
  rw [if_neg (by simp [e1, e4]), Option.bind_some, next_ok _ _ hb (by omega) hn, Option.bind_some]
  have hl : (r.rest.left.take n.toNat).length ≤ 4 := by simp; omega
  have := num_l0 (r.rest.left.take n.toNat, ⟨r.rest.left.drop n.toNat, false⟩) (by show (r.rest.left.take n.toNat).length ≤ _; omega) (r.rest.left.take n.toNat).length (k + 5) 0 0 rfl (by omega)
  simp only [Int.ofNat_zero, Int.natCast_zero, List.drop_zero] at this
  rw [this]
  rfl
theorem fdiv_pos (n : Int) (d : Nat) (hn : 0 ≤ n) : Int.fdiv n (2 ^ d) = n / (2 ^ d) := Int.fdiv_eq_ediv_of_nonneg _ (Int.le_of_lt (Int.pow_pos (by decide)))
theorem put_step (n : Int) (hn : 0 ≤ n) (k : Nat) (x : List Int) (i : Nat) (hi : i ≤ 32) (hx : x.length + 1 ≤ 140737488355328) :
    cursor_Put.l0 n (k + 1) x (i : Int) = cursor_Put.l0 n k (x ++ [(n / 2 ^ i) % 256]) ((i : Int) - 8) := by
  rw [cursor_Put.l0]
  have h0 : (0 : Int) ≤ (i : Int) := by omega
  have e : IntKind.i64.wrap ((i : Int) - 8) = (i : Int) - 8 := by rw [IntKind.wrap_i64]; omega
  have hm : min ((i : Int).toNat) IntKind.i64.bits = i := by
    show min i 64 = i
    omega
  rw [if_pos (by simp), if_pos h0, if_pos (by simp; omega), e, hm, fdiv_pos _ _ hn, IntKind.wrap_u8]
theorem put_end (n : Int) (k : Nat) (x : List Int) (i : Int) (hi : i < 0) : cursor_Put.l0 n (k + 1) x i = some x := by
  rw [cursor_Put.l0, if_neg (by simp; omega)]
def putL (n : Int) : Nat → List Int
  | 1 => [n % 256]
  | 2 => [n / 256 % 256, n % 256]
  | 3 => [n / 65536 % 256, n / 256 % 256, n % 256]
  | 4 => [n / 16777216 % 256, n / 65536 % 256, n / 256 % 256, n % 256]
  | _ => []
theorem put_bad1 (k : Nat) (b : List Int) (n s : Int) (h : s < 1 ∨ s > 4) : cursor_Put.f k b n s = some ([], 1) := by
  unfold cursor_Put.f
  have : (if decide (s < 1) = true then true else decide (s > 4)) = true := by simp; omega
  rw [if_pos this]
theorem put_bad5 (k : Nat) (b : List Int) (n s : Int) (h1 : 1 ≤ s) (h4 : s ≤ 4) (h : n < 0 ∨ n ≥ 2 ^ (8 * s.toNat)) : cursor_Put.f k b n s = some ([], 5) := by
  unfold cursor_Put.f
  have : ¬ (if decide (s < 1) = true then true else decide (s > 4)) = true := by simp; omega
  rw [if_neg this]
  have e : IntKind.i64.wrap ((8 : Int) * s) = 8 * s := by rw [IntKind.wrap_i64]; omega
  rw [e]
  by_cases hn : n < 0
  · simp [hn]
  · have hge : n ≥ 2 ^ (8 * s.toNat) := h.resolve_left hn
    have hm : min ((8 * s).toNat) IntKind.i64.bits = 8 * s.toNat := by show min _ 64 = _; omega
    have hne : (Int.fdiv n (2 ^ (8 * s.toNat)) != 0) = true := by
      rw [fdiv_pos _ _ (by omega)]
      have hp : (0 : Int) < 2 ^ (8 * s.toNat) := Int.pow_pos (by decide)
      have : 1 ≤ n / 2 ^ (8 * s.toNat) := (Int.le_ediv_iff_mul_le hp).2 (by omega)
      simp; omega
    rw [if_neg (by simpa using hn), if_pos (by omega), hm, hne]
    rfl
theorem put_ok (k : Nat) (b : List Int) (n : Int) (s : Nat) (hb : b.length ≤ 140737488351232) (h1 : 1 ≤ s) (h4 : s ≤ 4) (hn : 0 ≤ n) (hlt : n < 2 ^ (8 * s)) : cursor_Put.f (k + 5) b n (s : Int) = some (b ++ putL n s, 0) := by
  unfold cursor_Put.f
  have : ¬ (if decide ((s : Int) < 1) = true then true else decide ((s : Int) > 4)) = true := by simp; omega
  rw [if_neg this]
  have e : IntKind.i64.wrap ((8 : Int) * (s : Int)) = 8 * (s : Int) := by rw [IntKind.wrap_i64]; omega
  have e2 : IntKind.i64.wrap ((8 : Int) * IntKind.i64.wrap ((s : Int) - 1)) = 8 * ((s : Int) - 1) := by rw [IntKind.wrap_i64, IntKind.wrap_i64]; omega
  rw [e, e2]
  have hm : min ((8 * (s : Int)).toNat) IntKind.i64.bits = 8 * s := by show min _ 64 = _; omega
  have hz : (Int.fdiv n (2 ^ (8 * s)) != 0) = false := by
    rw [fdiv_pos _ _ hn, Int.ediv_eq_zero_of_lt hn hlt]; rfl
  rw [if_neg (by simpa using hn), if_pos (by omega), hm, hz, Option.bind_some, if_neg (by simp), clone_ok _ (by omega), Option.bind_some]
  rcases (show s = 1 ∨ s = 2 ∨ s = 3 ∨ s = 4 by omega) with rfl | rfl | rfl | rfl
  · have := put_step n hn (k + 4) b 0 (by omega) (by omega)
    rw [show (8 : Int) * ((1 : Nat) - 1) = ((0 : Nat) : Int) from rfl, this, put_end _ _ _ _ (by omega)]
    simp [putL]
  · have s1 := put_step n hn (k + 4) b 8 (by omega) (by omega)
    have s2 := put_step n hn (k + 3) (b ++ [n / 2 ^ 8 % 256]) 0 (by omega) (by simp; omega)
    rw [show (8 : Int) * ((2 : Nat) - 1) = ((8 : Nat) : Int) from rfl, s1, show ((8 : Nat) : Int) - 8 = ((0 : Nat) : Int) from rfl, s2, put_end _ _ _ _ (by omega)]
    simp [putL]
  · have s1 := put_step n hn (k + 4) b 16 (by omega) (by omega)
    have s2 := put_step n hn (k + 3) (b ++ [n / 2 ^ 16 % 256]) 8 (by omega) (by simp; omega)
    have s3 := put_step n hn (k + 2) (b ++ [n / 2 ^ 16 % 256] ++ [n / 2 ^ 8 % 256]) 0 (by omega) (by simp; omega)
    rw [show (8 : Int) * ((3 : Nat) - 1) = ((16 : Nat) : Int) from rfl, s1, show ((16 : Nat) : Int) - 8 = ((8 : Nat) : Int) from rfl, s2, show ((8 : Nat) : Int) - 8 = ((0 : Nat) : Int) from rfl, s3, put_end _ _ _ _ (by omega)]
    simp [putL]
  · have s1 := put_step n hn (k + 4) b 24 (by omega) (by omega)
    have s2 := put_step n hn (k + 3) (b ++ [n / 2 ^ 24 % 256]) 16 (by omega) (by simp; omega)
    have s3 := put_step n hn (k + 2) (b ++ [n / 2 ^ 24 % 256] ++ [n / 2 ^ 16 % 256]) 8 (by omega) (by simp; omega)
    have s4 := put_step n hn (k + 1) (b ++ [n / 2 ^ 24 % 256] ++ [n / 2 ^ 16 % 256] ++ [n / 2 ^ 8 % 256]) 0 (by omega) (by simp; omega)
    rw [show (8 : Int) * ((4 : Nat) - 1) = ((24 : Nat) : Int) from rfl, s1, show ((24 : Nat) : Int) - 8 = ((16 : Nat) : Int) from rfl, s2, show ((16 : Nat) : Int) - 8 = ((8 : Nat) : Int) from rfl, s3, show ((8 : Nat) : Int) - 8 = ((0 : Nat) : Int) from rfl, s4, put_end _ _ _ _ (by omega)]
    simp [putL]
theorem or_step (x c : Int) (hx : 0 ≤ x) (hx2 : x < 72057594037927936) (hc : 0 ≤ c) (hc2 : c ≤ 255) :
    IntKind.i64.wrap (BitVec.ofInt IntKind.i64.bits (IntKind.i64.wrap (x * 2 ^ (min (8 : Int).toNat IntKind.i64.bits))) ||| BitVec.ofInt IntKind.i64.bits (IntKind.i64.wrap c)).toNat = IntKind.i64.wrap (x * 256 + c) := by
  obtain ⟨a, rfl⟩ := Int.eq_ofNat_of_zero_le hx
  obtain ⟨d, rfl⟩ := Int.eq_ofNat_of_zero_le hc
  congr 1
  have e1 : (BitVec.ofInt IntKind.i64.bits (IntKind.i64.wrap ((a : Int) * 2 ^ (min (8 : Int).toNat IntKind.i64.bits)))).toNat = 2 ^ 8 * a := by
    have : ((a : Int) * 2 ^ (min (8 : Int).toNat IntKind.i64.bits)) = (a : Int) * 256 := rfl
    rw [this, IntKind.wrap_i64, BitVec.toNat_ofInt]
    show (_ % ((2 ^ 64 : Nat) : Int)).toNat = _
    omega
  have e2 : (BitVec.ofInt IntKind.i64.bits (IntKind.i64.wrap (d : Int))).toNat = d := by
    rw [IntKind.wrap_i64, BitVec.toNat_ofInt]
    show (_ % ((2 ^ 64 : Nat) : Int)).toNat = _
    omega
  rw [BitVec.toNat_or, e1, e2, ← Nat.two_pow_add_eq_or_of_lt (by omega : d < 2 ^ 8)]
  omega
theorem numL_cons (c : Int) (l : List Int) (x : Int) (hx : 0 ≤ x) (hx2 : x < 4294967296) (hc : 0 ≤ c) (hc2 : c ≤ 255) : numL (c :: l) x = numL l (x * 256 + c) := by
  rw [numL, or_step x c hx (by omega) hc hc2]
  congr 1
  rw [IntKind.wrap_i64]; omega
theorem num_put (n : Int) (s : Nat) (h1 : 1 ≤ s) (h4 : s ≤ 4) (hn : 0 ≤ n) (hlt : n < 2 ^ (8 * s)) : numL (putL n s) 0 = n := by
  rcases (show s = 1 ∨ s = 2 ∨ s = 3 ∨ s = 4 by omega) with rfl | rfl | rfl | rfl <;> simp only [putL]
  · have : n < 256 := hlt
    rw [numL_cons _ _ _ (by omega) (by omega) (by omega) (by omega), numL]; omega
  · have : n < 65536 := hlt
    rw [numL_cons _ _ _ (by omega) (by omega) (by omega) (by omega), numL_cons _ _ _ (by omega) (by omega) (by omega) (by omega), numL]; omega
  · have : n < 16777216 := hlt
    rw [numL_cons _ _ _ (by omega) (by omega) (by omega) (by omega), numL_cons _ _ _ (by omega) (by omega) (by omega) (by omega), numL_cons _ _ _ (by omega) (by omega) (by omega) (by omega), numL]; omega
  · have : n < 4294967296 := hlt
    rw [numL_cons _ _ _ (by omega) (by omega) (by omega) (by omega), numL_cons _ _ _ (by omega) (by omega) (by omega) (by omega), numL_cons _ _ _ (by omega) (by omega) (by omega) (by omega), numL_cons _ _ _ (by omega) (by omega) (by omega) (by omega), numL]; omega
theorem putL_length (n : Int) (s : Nat) (h1 : 1 ≤ s) (h4 : s ≤ 4) : (putL n s).length = s := by
  rcases (show s = 1 ∨ s = 2 ∨ s = 3 ∨ s = 4 by omega) with rfl | rfl | rfl | rfl <;> rfl
theorem put_num (l : List Int) (h1 : 1 ≤ l.length) (h4 : l.length ≤ 4) (hl : ∀ y ∈ l, 0 ≤ y ∧ y ≤ 255) : 0 ≤ numL l 0 ∧ numL l 0 < 2 ^ (8 * l.length) ∧ putL (numL l 0) l.length = l := by
  match l, h1, h4, hl with
  | [a], _, _, hl =>
    have ha := hl a (by simp)
    rw [numL_cons _ _ _ (by omega) (by omega) ha.1 ha.2, numL]
    simp only [putL, List.length_cons, List.length_nil]
    exact ⟨by omega, by omega, by congr 1; omega⟩
  | [a, b], _, _, hl =>
    have ha := hl a (by simp); have hb := hl b (by simp)
    rw [numL_cons _ _ _ (by omega) (by omega) ha.1 ha.2, numL_cons _ _ _ (by omega) (by omega) hb.1 hb.2, numL]
    simp only [putL, List.length_cons, List.length_nil]
    exact ⟨by omega, by omega, by congr 1; omega; congr 1; omega⟩
  | [a, b, c], _, _, hl =>
    have ha := hl a (by simp); have hb := hl b (by simp); have hc := hl c (by simp)
    rw [numL_cons _ _ _ (by omega) (by omega) ha.1 ha.2, numL_cons _ _ _ (by omega) (by omega) hb.1 hb.2, numL_cons _ _ _ (by omega) (by omega) hc.1 hc.2, numL]
    simp only [putL, List.length_cons, List.length_nil]
    exact ⟨by omega, by omega, by congr 1; omega; congr 1; omega; congr 1; omega⟩
  | [a, b, c, d], _, _, hl =>
    have ha := hl a (by simp); have hb := hl b (by simp); have hc := hl c (by simp); have hd := hl d (by simp)
    rw [numL_cons _ _ _ (by omega) (by omega) ha.1 ha.2, numL_cons _ _ _ (by omega) (by omega) hb.1 hb.2, numL_cons _ _ _ (by omega) (by omega) hc.1 hc.2, numL_cons _ _ _ (by omega) (by omega) hd.1 hd.2, numL]
    simp only [putL, List.length_cons, List.length_nil]
    exact ⟨by omega, by omega, by congr 1; omega; congr 1; omega; congr 1; omega; congr 1; omega⟩
def bI (b : Bool) : Int := if b = true then 1 else 0
def putV (l : Int) (b : Bool) : List Int × Int := if l < 0 ∨ l > 1048575 then ([], 5) else (putL (16 * l + bI b) 3, 0)
theorem lbytes_ok (k : Nat) (l : Int) (b : Bool) : label_Bytes.f (k + 20) l b = some (putV l b) := by
  unfold label_Bytes.f putV
  by_cases h : l < 0 ∨ l > 1048575
  · have : (if decide (l < 0) = true then true else decide (l > 1048575)) = true := by rcases h with h | h <;> simp [h]
    rw [if_pos this, if_pos h]
  · have h1 : 0 ≤ l ∧ l ≤ 1048575 := by omega
    have : ¬ (if decide (l < 0) = true then true else decide (l > 1048575)) = true := by simp; omega
    rw [if_neg this, if_neg h, sh4 l h1.1 h1.2, or1 l h1.1 h1.2]
    cases b
    · simp only [Bool.false_eq_true, if_false, Option.bind_some]
      rw [show (3 : Int) = ((3 : Nat) : Int) from rfl, put_ok (k + 15) [] _ 3 (by simp) (by omega) (by omega) (by omega) (by omega)]
      simp [bI]
    · simp only [if_true, Option.bind_some]
      rw [show (3 : Int) = ((3 : Nat) : Int) from rfl, put_ok (k + 15) [] _ 3 (by simp) (by omega) (by omega) (by omega) (by omega)]
      simp [bI]
def readV (b : List Int) : Int × Bool × Int := if b.length = 3 ∧ numL b 0 % 16 ≤ 1 then (numL b 0 / 16, numL b 0 % 2 == 1, 0) else (0, false, 4)
theorem fdiv4 (n : Int) (h : 0 ≤ n) : Int.fdiv n (2 ^ (min (4 : Int).toNat IntKind.i64.bits)) = n / 16 := by
  have : (2 : Int) ^ (min (4 : Int).toNat IntKind.i64.bits) = 16 := rfl
  rw [this]; exact Int.fdiv_eq_ediv_of_nonneg _ (by decide)
theorem lread_ok (k : Nat) (b : List Int) (hB : isB b) (hl : b.length ≤ 140737488351232) : label_Read.f (k + 20) b = some (readV b) := by
  unfold label_Read.f cursor_Open.f
  rw [clone_ok _ (by omega)]
  simp only [Option.bind_some]
  unfold readV
  by_cases h3 : b.length = 3
  · rw [num_ok (k + 15) _ 3 rfl (by omega) (by omega) (by simp [h3]), Option.bind_some]
    have ht : b.take (Int.toNat 3) = b := List.take_of_length_le (by omega)
    have hp := put_num b (by omega) (by omega) hB
    rw [h3] at hp
    simp only [ht]
    have hn := hp.2.1
    rw [and15 _ hp.1 (by omega), and1 _ hp.1 (by omega), fdiv4 _ hp.1]
    by_cases h : numL b 0 % 16 ≤ 1
    · have : ¬ (if ((b.length : Int) != 3) = true then true else decide (numL b 0 % 16 > 1)) = true := by simp [h3]; omega
      rw [if_neg this, if_pos ⟨h3, h⟩]
    · have : (if ((b.length : Int) != 3) = true then true else decide (numL b 0 % 16 > 1)) = true := by simp [h3]; omega
      rw [if_pos this, if_neg (fun e => h e.2)]
  · have h3' : (((b.length : Int) != 3) = true) := by simp; omega
    rw [if_neg (fun e => h3 e.1)]
    by_cases hs : b.length < 3
    · rw [num_bad (k + 19) _ 3 (by right; right; right; simp; omega), Option.bind_some]
      simp only [h3', if_true]
    · rw [num_ok (k + 15) _ 3 rfl (by omega) (by omega) (by simp; omega), Option.bind_some]
      simp only [h3', if_true]
theorem putL_isB (n : Int) : isB (putL n 3) := by
  intro y hy
  simp only [putL, List.mem_cons, List.not_mem_nil, or_false] at hy
  rcases hy with rfl | rfl | rfl <;> omega
theorem LabelBack.law (l : Int) (hl : okI .i64 l) (s : Bool) (hs : okB s) (b : List Int) (hb : okL 1 (okI .u8) b) : ∃ k, vinerylaw05_LabelBack.f k l s b = some true := by
  have hB := okL_isB hb
  have hbl : b.length ≤ 140737488351232 := by rcases okL_len hb with h | h <;> omega
  refine ⟨0 + 20, ?_⟩
  unfold vinerylaw05_LabelBack.f
  have second : ((label_Read.f (0 + 20) b).bind fun t11 => (if (t11.2.2 != (0 : Int)) = true then some ((if (if true = true then (t11.1 == (0 : Int)) else false) = true then (!t11.2.1) else false : Bool)) else (label_Bytes.f (0 + 20) t11.1 t11.2.1).bind fun t17 => ((if true = true then (if (t17.2 == (0 : Int)) = true then some ((bstr (b2s t17.1)).toList == (bstr (b2s b)).toList : Bool) else some (false : Bool)) else some (false : Bool))).bind fun s20 => some ((s20 : Bool)))) = some true := by
    rw [lread_ok _ _ hB hbl, Option.bind_some]
    unfold readV
    by_cases h : b.length = 3 ∧ numL b 0 % 16 ≤ 1
    · rw [if_pos h]
      have hp := put_num b (by omega) (by omega) hB
      rw [h.1] at hp
      have hn := hp.2.1
      have hm := h.2
      have e : 16 * (numL b 0 / 16) + bI (numL b 0 % 2 == 1) = numL b 0 := by
        unfold bI
        by_cases h2 : numL b 0 % 2 = 1
        · simp [h2]; omega
        · simp [h2]; omega
      simp only [bne_self_eq_false, Bool.false_eq_true, if_false]
      have hq : putV (numL b 0 / 16) (numL b 0 % 2 == 1) = (b, 0) := by
        unfold putV
        rw [if_neg (by omega), e, hp.2.2]
      rw [lbytes_ok, Option.bind_some, hq]
      simp
    · rw [if_neg h]
      rfl
  rw [small05, Option.bind_some, lbytes_ok, Option.bind_some]
  unfold putV
  by_cases h : l < 0 ∨ l > 1048575
  · rw [if_pos h]
    unfold lv
    simp only [show ((5 : Int) == 0) = false from rfl, Bool.false_eq_true, if_false, Option.bind_some]
    exact second
  · rw [if_neg h]
    have hb1 : 0 ≤ bI s ∧ bI s ≤ 1 := by unfold bI; split <;> omega
    have hn := num_put (16 * l + bI s) 3 (by omega) (by omega) (by omega) (by omega)
    have hlen : (putL (16 * l + bI s) 3).length = 3 := rfl
    have hr : readV (putL (16 * l + bI s) 3) = (l, s, 0) := by
      unfold readV
      rw [hn, if_pos ⟨hlen, by omega⟩]
      have e1 : (16 * l + bI s) / 16 = l := by omega
      have e2 : ((16 * l + bI s) % 2 == 1) = s := by
        cases s
        · simp [bI]; omega
        · simp [bI]; omega
      rw [e1, e2]
    unfold lv
    simp only [BEq.rfl, if_true]
    rw [lread_ok _ _ (putL_isB _) (by rw [hlen]; omega), Option.bind_some, hr]
    simp only [bne_self_eq_false, Bool.false_eq_true, if_false, BEq.rfl, Bool.not_true, Option.bind_some]
    exact second
end Go.E
