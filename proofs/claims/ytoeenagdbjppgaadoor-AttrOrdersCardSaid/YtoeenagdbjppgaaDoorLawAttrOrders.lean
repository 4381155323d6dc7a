/- The plain law: what the walk computes is true, whatever the input. -/
import Derived.Test.YtoeenagdbjppgaaDoorGenAttrOrders
import Derived.Test.YtoeenagdbjppgaaDoorEngR
set_option linter.unusedVariables false
set_option linter.unusedSimpArgs false
namespace Go.E
theorem bstr_toList (l : List UInt8) : (bstr l).toList = l := by rw [ByteArray.toList_eq]; simp [bstr]
theorem clone_ok (l : List Int) (h : l.length ≤ 140737488355328) : bytes_Clone.f l = some l := if_pos h
theorem next_bad (r : S_cursor_rest) (n : Int) (h : r.bad = true ∨ n < 0 ∨ n > r.left.length) : cursor_rest_next.f r n = some ([], ⟨r.left, true⟩) := by
  unfold cursor_rest_next.f
  by_cases hb : r.bad = true
  · simp [hb]
  · by_cases h1 : n < 0
    · simp [hb, h1]
    · have h2 : (r.left.length : Int) < n := by rcases h with h | h | h <;> first | exact absurd h hb | exact absurd h h1 | exact h
      simp [hb, h1, h2]
theorem next_ok (r : S_cursor_rest) (n : Int) (hb : r.bad = false) (h0 : 0 ≤ n) (h1 : n ≤ r.left.length) : cursor_rest_next.f r n = some (r.left.take n.toNat, ⟨r.left.drop n.toNat, false⟩) := by
  unfold cursor_rest_next.f
  have e0 : ¬ n < 0 := by omega
  have e1 : ¬ (r.left.length : Int) < n := by omega
  simp [hb, e0, e1, h0, h1]
theorem take_bad (r : S_cursor_Reader) (n : Int) (h : r.rest.bad = true ∨ n < 0 ∨ n > r.rest.left.length) : cursor_Reader_Take.f r n = some ([], ⟨⟨r.rest.left, true⟩⟩) := by
  unfold cursor_Reader_Take.f
  rw [next_bad _ _ h, Option.bind_some, clone_ok _ (by simp)]
  rfl
theorem take_ok (r : S_cursor_Reader) (n : Int) (hl : r.rest.left.length ≤ 140737488355328) (hb : r.rest.bad = false) (h0 : 0 ≤ n) (h1 : n ≤ r.rest.left.length) :
    cursor_Reader_Take.f r n = some (r.rest.left.take n.toNat, ⟨⟨r.rest.left.drop n.toNat, false⟩⟩) := by
  unfold cursor_Reader_Take.f
  rw [next_ok _ _ hb h0 h1, Option.bind_some, clone_ok _ (by simp; omega)]
  rfl
/-- what a number's bytes come to -/
def numL : List Int → Int → Int
  | [], x => x
  | c :: l, x => numL l (IntKind.i64.wrap (BitVec.ofInt IntKind.i64.bits (IntKind.i64.wrap (x * 2 ^ (min (8 : Int).toNat IntKind.i64.bits))) ||| BitVec.ofInt IntKind.i64.bits (IntKind.i64.wrap c)).toNat)
theorem num_l0 (t : List Int × S_cursor_rest) (hl : t.1.length ≤ 140737488355328) : ∀ (m k i : Nat) (x : Int), m + i = t.1.length → m < k → cursor_Reader_Num.l0 t k x (i : Int) = some (numL (t.1.drop i) x)
  | 0, k + 1, i, x, h, _ => by
    unfold cursor_Reader_Num.l0
    rw [if_neg (by simp; omega), List.drop_of_length_le (by omega)]
    rfl
  | m + 1, k + 1, i, x, h, hk => by
    unfold cursor_Reader_Num.l0
    have hi : i < t.1.length := by omega
    have e : IntKind.i64.wrap ((i : Int) + 1) = ((i + 1 : Nat) : Int) := by rw [IntKind.wrap_i64]; omega
    rw [if_pos (by simpa using hi), if_pos (by omega), e, num_l0 t hl m k (i + 1) _ (by omega) (by omega), List.drop_eq_getElem_cons hi]
    have er : rd t.1 (i : Int) = t.1[i] := by simp [rd, List.getD, hi]
    rw [er]
    rfl
theorem num_bad (k : Nat) (r : S_cursor_Reader) (n : Int) (h : r.rest.bad = true ∨ n < 1 ∨ n > 4 ∨ n > r.rest.left.length) : cursor_Reader_Num.f (k + 1) r n = some (0, ⟨⟨r.rest.left, true⟩⟩) := by
  unfold cursor_Reader_Num.f
  have hl : cursor_Reader_Num.l0 ([], ⟨r.rest.left, true⟩) (k + 1) 0 0 = some 0 := by unfold cursor_Reader_Num.l0; simp
  by_cases hs : n < 1 ∨ n > 4
  · have : (if decide (n < 1) = true then true else decide (n > 4)) = true := by rcases hs with h | h <;> simp [h]
    rw [if_pos this, Option.bind_some, next_bad _ _ (by omega), Option.bind_some, hl]
    rfl
  · have h1 : ¬ n < 1 := fun e => hs (.inl e)
    have h2 : ¬ 4 < n := fun e => hs (.inr e)
    have : ¬ (if decide (n < 1) = true then true else decide (n > 4)) = true := by simp [h1, h2]
    rw [if_neg this, Option.bind_some, next_bad _ _ (by rcases h with h | h | h | h <;> first | exact .inl h | exact absurd h h1 | exact absurd h h2 | exact .inr (.inr h)), Option.bind_some, hl]
    rfl
theorem num_ok (k : Nat) (r : S_cursor_Reader) (n : Int) (hb : r.rest.bad = false) (h1 : 1 ≤ n) (h4 : n ≤ 4) (hn : n ≤ r.rest.left.length) :
    cursor_Reader_Num.f (k + 5) r n = some (numL (r.rest.left.take n.toNat) 0, ⟨⟨r.rest.left.drop n.toNat, false⟩⟩) := by
  unfold cursor_Reader_Num.f
  have e1 : ¬ n < 1 := by omega
  have e4 : ¬ 4 < n := by omega
  rw [if_neg (by simp [e1, e4]), Option.bind_some, next_ok _ _ hb (by omega) hn, Option.bind_some]
  have hl : (r.rest.left.take n.toNat).length ≤ 4 := by simp; omega
  have := num_l0 (r.rest.left.take n.toNat, ⟨r.rest.left.drop n.toNat, false⟩) (by show (r.rest.left.take n.toNat).length ≤ _; omega) (r.rest.left.take n.toNat).length (k + 5) 0 0 rfl (by omega)
  simp only [Int.ofNat_zero, Int.natCast_zero, List.drop_zero] at this
  rw [this]
  rfl
theorem fdiv_pos (n : Int) (d : Nat) (hn : 0 ≤ n) : Int.fdiv n (2 ^ d) = n / (2 ^ d) := Int.fdiv_eq_ediv_of_nonneg _ (Int.le_of_lt (Int.pow_pos (by decide)))
theorem put_step (n : Int) (hn : 0 ≤ n) (k : Nat) (x : List Int) (i : Nat) (hi : i ≤ 32) (hx : x.length + 1 ≤ 140737488355328) :
    cursor_Put.l0 n (k + 1) x (i : Int) = cursor_Put.l0 n k (x ++ [(n / 2 ^ i) % 256]) ((i : Int) - 8) := by
  rw [cursor_Put.l0]
  have h0 : (0 : Int) ≤ (i : Int) := by omega
  have e : IntKind.i64.wrap ((i : Int) - 8) = (i : Int) - 8 := by rw [IntKind.wrap_i64]; omega
  have hm : min ((i : Int).toNat) IntKind.i64.bits = i := by
    show min i 64 = i
    omega
  rw [if_pos (by simp), if_pos h0, if_pos (by simp; omega), e, hm, fdiv_pos _ _ hn, IntKind.wrap_u8]
theorem put_end (n : Int) (k : Nat) (x : List Int) (i : Int) (hi : i < 0) : cursor_Put.l0 n (k + 1) x i = some x := by
  rw [cursor_Put.l0, if_neg (by simp; omega)]
def putL (n : Int) : Nat → List Int
  | 1 => [n % 256]
  | 2 => [n / 256 % 256, n % 256]
  | 3 => [n / 65536 % 256, n / 256 % 256, n % 256]
  | 4 => [n / 16777216 % 256, n / 65536 % 256, n / 256 % 256, n % 256]
  | _ => []
theorem put_bad1 (k : Nat) (b : List Int) (n s : Int) (h : s < 1 ∨ s > 4) : cursor_Put.f k b n s = some ([], 1) := by
  unfold cursor_Put.f
  have : (if decide (s < 1) = true then true else decide (s > 4)) = true := by simp; omega
  rw [if_pos this]
theorem put_bad5 (k : Nat) (b : List Int) (n s : Int) (h1 : 1 ≤ s) (h4 : s ≤ 4) (h : n < 0 ∨ n ≥ 2 ^ (8 * s.toNat)) : cursor_Put.f k b n s = some ([], 5) := by
  unfold cursor_Put.f
  have : ¬ (if decide (s < 1) = true then true else decide (s > 4)) = true := by simp; omega
  rw [if_neg this]
  have e : IntKind.i64.wrap ((8 : Int) * s) = 8 * s := by rw [IntKind.wrap_i64]; omega
  rw [e]
  by_cases hn : n < 0
  · simp [hn]
  · have hge : n ≥ 2 ^ (8 * s.toNat) := h.resolve_left hn
    have hm : min ((8 * s).toNat) IntKind.i64.bits = 8 * s.toNat := by show min _ 64 = _; omega
    have hne : (Int.fdiv n (2 ^ (8 * s.toNat)) != 0) = true := by
      rw [fdiv_pos _ _ (by omega)]
      have hp : (0 : Int) < 2 ^ (8 * s.toNat) := Int.pow_pos (by decide)
      have : 1 ≤ n / 2 ^ (8 * s.toNat) := (Int.le_ediv_iff_mul_le hp).2 (by omega)
      simp; omega
    rw [if_neg (by simpa using hn), if_pos (by omega), hm, hne]
    rfl
theorem put_ok (k : Nat) (b : List Int) (n : Int) (s : Nat) (hb : b.length ≤ 140737488351232) (h1 : 1 ≤ s) (h4 : s ≤ 4) (hn : 0 ≤ n) (hlt : n < 2 ^ (8 * s)) : cursor_Put.f (k + 5) b n (s : Int) = some (b ++ putL n s, 0) := by
  unfold cursor_Put.f
  have : ¬ (if decide ((s : Int) < 1) = true then true else decide ((s : Int) > 4)) = true := by simp; omega
  rw [if_neg this]
  have e : IntKind.i64.wrap ((8 : Int) * (s : Int)) = 8 * (s : Int) := by rw [IntKind.wrap_i64]; omega
  have e2 : IntKind.i64.wrap ((8 : Int) * IntKind.i64.wrap ((s : Int) - 1)) = 8 * ((s : Int) - 1) := by rw [IntKind.wrap_i64, IntKind.wrap_i64]; omega
  rw [e, e2]
  have hm : min ((8 * (s : Int)).toNat) IntKind.i64.bits = 8 * s := by show min _ 64 = _; omega
  have hz : (Int.fdiv n (2 ^ (8 * s)) != 0) = false := by
    rw [fdiv_pos _ _ hn, Int.ediv_eq_zero_of_lt hn hlt]; rfl
  rw [if_neg (by simpa using hn), if_pos (by omega), hm, hz, Option.bind_some, if_neg (by simp), clone_ok _ (by omega), Option.bind_some]
  rcases (show s = 1 ∨ s = 2 ∨ s = 3 ∨ s = 4 by omega) with rfl | rfl | rfl | rfl
  · have := put_step n hn (k + 4) b 0 (by omega) (by omega)
    rw [show (8 : Int) * ((1 : Nat) - 1) = ((0 : Nat) : Int) from rfl, this, put_end _ _ _ _ (by omega)]
    simp [putL]
  · have s1 := put_step n hn (k + 4) b 8 (by omega) (by omega)
    have s2 := put_step n hn (k + 3) (b ++ [n / 2 ^ 8 % 256]) 0 (by omega) (by simp; omega)
    rw [show (8 : Int) * ((2 : Nat) - 1) = ((8 : Nat) : Int) from rfl, s1, show ((8 : Nat) : Int) - 8 = ((0 : Nat) : Int) from rfl, s2, put_end _ _ _ _ (by omega)]
    simp [putL]
  · have s1 := put_step n hn (k + 4) b 16 (by omega) (by omega)
    have s2 := put_step n hn (k + 3) (b ++ [n / 2 ^ 16 % 256]) 8 (by omega) (by simp; omega)
    have s3 := put_step n hn (k + 2) (b ++ [n / 2 ^ 16 % 256] ++ [n / 2 ^ 8 % 256]) 0 (by omega) (by simp; omega)
    rw [show (8 : Int) * ((3 : Nat) - 1) = ((16 : Nat) : Int) from rfl, s1, show ((16 : Nat) : Int) - 8 = ((8 : Nat) : Int) from rfl, s2, show ((8 : Nat) : Int) - 8 = ((0 : Nat) : Int) from rfl, s3, put_end _ _ _ _ (by omega)]
    simp [putL]
  · have s1 := put_step n hn (k + 4) b 24 (by omega) (by omega)
    have s2 := put_step n hn (k + 3) (b ++ [n / 2 ^ 24 % 256]) 16 (by omega) (by simp; omega)
    have s3 := put_step n hn (k + 2) (b ++ [n / 2 ^ 24 % 256] ++ [n / 2 ^ 16 % 256]) 8 (by omega) (by simp; omega)
    have s4 := put_step n hn (k + 1) (b ++ [n / 2 ^ 24 % 256] ++ [n / 2 ^ 16 % 256] ++ [n / 2 ^ 8 % 256]) 0 (by omega) (by simp; omega)
    rw [show (8 : Int) * ((4 : Nat) - 1) = ((24 : Nat) : Int) from rfl, s1, show ((24 : Nat) : Int) - 8 = ((16 : Nat) : Int) from rfl, s2, show ((16 : Nat) : Int) - 8 = ((8 : Nat) : Int) from rfl, s3, show ((8 : Nat) : Int) - 8 = ((0 : Nat) : Int) from rfl, s4, put_end _ _ _ _ (by omega)]
    simp [putL]
theorem or_step (x c : Int) (hx : 0 ≤ x) (hx2 : x < 72057594037927936) (hc : 0 ≤ c) (hc2 : c ≤ 255) :
    IntKind.i64.wrap (BitVec.ofInt IntKind.i64.bits (IntKind.i64.wrap (x * 2 ^ (min (8 : Int).toNat IntKind.i64.bits))) ||| BitVec.ofInt IntKind.i64.bits (IntKind.i64.wrap c)).toNat = IntKind.i64.wrap (x * 256 + c) := by
  obtain ⟨a, rfl⟩ := Int.eq_ofNat_of_zero_le hx
  obtain ⟨d, rfl⟩ := Int.eq_ofNat_of_zero_le hc
  congr 1
  have e1 : (BitVec.ofInt IntKind.i64.bits (IntKind.i64.wrap ((a : Int) * 2 ^ (min (8 : Int).toNat IntKind.i64.bits)))).toNat = 2 ^ 8 * a := by
    have : ((a : Int) * 2 ^ (min (8 : Int).toNat IntKind.i64.bits)) = (a : Int) * 256 := rfl
    rw [this, IntKind.wrap_i64, BitVec.toNat_ofInt]
    show (_ % ((2 ^ 64 : Nat) : Int)).toNat = _
    omega
  have e2 : (BitVec.ofInt IntKind.i64.bits (IntKind.i64.wrap (d : Int))).toNat = d := by
    rw [IntKind.wrap_i64, BitVec.toNat_ofInt]
    show (_ % ((2 ^ 64 : Nat) : Int)).toNat = _
    omega
  rw [BitVec.toNat_or, e1, e2, ← Nat.two_pow_add_eq_or_of_lt (by omega : d < 2 ^ 8)]
  omega
theorem numL_cons (c : Int) (l : List Int) (x : Int) (hx : 0 ≤ x) (hx2 : x < 4294967296) (hc : 0 ≤ c) (hc2 : c ≤ 255) : numL (c :: l) x = numL l (x * 256 + c) := by
  rw [numL, or_step x c hx (by omega) hc hc2]
  congr 1
  rw [IntKind.wrap_i64]; omega
theorem num_put (n : Int) (s : Nat) (h1 : 1 ≤ s) (h4 : s ≤ 4) (hn : 0 ≤ n) (hlt : n < 2 ^ (8 * s)) : numL (putL n s) 0 = n := by
  rcases (show s = 1 ∨ s = 2 ∨ s = 3 ∨ s = 4 by omega) with rfl | rfl | rfl | rfl <;> simp only [putL]
  · have : n < 256 := hlt
    rw [numL_cons _ _ _ (by omega) (by omega) (by omega) (by omega), numL]; omega
  · have : n < 65536 := hlt
    rw [numL_cons _ _ _ (by omega) (by omega) (by omega) (by omega), numL_cons _ _ _ (by omega) (by omega) (by omega) (by omega), numL]; omega
  · have : n < 16777216 := hlt
    rw [numL_cons _ _ _ (by omega) (by omega) (by omega) (by omega), numL_cons _ _ _ (by omega) (by omega) (by omega) (by omega), numL_cons _ _ _ (by omega) (by omega) (by omega) (by omega), numL]; omega
  · have : n < 4294967296 := hlt
    rw [numL_cons _ _ _ (by omega) (by omega) (by omega) (by omega), numL_cons _ _ _ (by omega) (by omega) (by omega) (by omega), numL_cons _ _ _ (by omega) (by omega) (by omega) (by omega), numL_cons _ _ _ (by omega) (by omega) (by omega) (by omega), numL]; omega
theorem putL_length (n : Int) (s : Nat) (h1 : 1 ≤ s) (h4 : s ≤ 4) : (putL n s).length = s := by
  rcases (show s = 1 ∨ s = 2 ∨ s = 3 ∨ s = 4 by omega) with rfl | rfl | rfl | rfl <;> rfl
theorem put_num (l : List Int) (h1 : 1 ≤ l.length) (h4 : l.length ≤ 4) (hl : ∀ y ∈ l, 0 ≤ y ∧ y ≤ 255) : 0 ≤ numL l 0 ∧ numL l 0 < 2 ^ (8 * l.length) ∧ putL (numL l 0) l.length = l := by
  match l, h1, h4, hl with
  | [a], _, _, hl =>
    have ha := hl a (by simp)
    rw [numL_cons _ _ _ (by omega) (by omega) ha.1 ha.2, numL]
    simp only [putL, List.length_cons, List.length_nil]
    exact ⟨by omega, by omega, by congr 1; omega⟩
  | [a, b], _, _, hl =>
    have ha := hl a (by simp); have hb := hl b (by simp)
    rw [numL_cons _ _ _ (by omega) (by omega) ha.1 ha.2, numL_cons _ _ _ (by omega) (by omega) hb.1 hb.2, numL]
    simp only [putL, List.length_cons, List.length_nil]
    exact ⟨by omega, by omega, by congr 1; omega; congr 1; omega⟩
  | [a, b, c], _, _, hl =>
    have ha := hl a (by simp); have hb := hl b (by simp); have hc := hl c (by simp)
    rw [numL_cons _ _ _ (by omega) (by omega) ha.1 ha.2, numL_cons _ _ _ (by omega) (by omega) hb.1 hb.2, numL_cons _ _ _ (by omega) (by omega) hc.1 hc.2, numL]
    simp only [putL, List.length_cons, List.length_nil]
    exact ⟨by omega, by omega, by congr 1; omega; congr 1; omega; congr 1; omega⟩
  | [a, b, c, d], _, _, hl =>
    have ha := hl a (by simp); have hb := hl b (by simp); have hc := hl c (by simp); have hd := hl d (by simp)
    rw [numL_cons _ _ _ (by omega) (by omega) ha.1 ha.2, numL_cons _ _ _ (by omega) (by omega) hb.1 hb.2, numL_cons _ _ _ (by omega) (by omega) hc.1 hc.2, numL_cons _ _ _ (by omega) (by omega) hd.1 hd.2, numL]
    simp only [putL, List.length_cons, List.length_nil]
    exact ⟨by omega, by omega, by congr 1; omega; congr 1; omega; congr 1; omega; congr 1; omega⟩
theorem w64 (n : Int) (h : -9223372036854775808 ≤ n ∧ n ≤ 9223372036854775807) : IntKind.i64.wrap n = n := by rw [IntKind.wrap_i64]; omega
def isB (l : List Int) : Prop := ∀ y ∈ l, 0 ≤ y ∧ y ≤ 255
theorem okL_isB {l : List Int} (h : okL 1 (okI .u8) l) : isB l := fun y hy => by
  have := h.2 y hy
  have e1 : IntKind.u8.min = 0 := rfl
  have e2 : IntKind.u8.max = 255 := rfl
  unfold okI at this
  omega
theorem okA_isB {l : List Int} {n : Nat} (h : okA .u8 n l) : isB l := fun y hy => by
  have := h.2 y hy
  have e1 : IntKind.u8.min = 0 := rfl
  have e2 : IntKind.u8.max = 255 := rfl
  unfold okI at this
  omega
theorem okL_len {l : List Int} {ok : Int → Prop} (h : okL 1 ok l) : l.length ≤ 140737488351232 := by have := h.1; unfold reachBytes at this; omega
theorem isB.app {a b : List Int} (h : isB a) (h' : isB b) : isB (a ++ b) := fun y hy => (List.mem_append.1 hy).elim (h y) (h' y)
theorem b2s_inj : ∀ {a b : List Int}, isB a → isB b → b2s a = b2s b → a = b
  | [], [], _, _, _ => rfl
  | [], _ :: _, _, _, h => by simp [b2s] at h
  | _ :: _, [], _, _, h => by simp [b2s] at h
  | x :: a, y :: b, ha, hb, h => by
    simp only [b2s, List.map_cons, List.cons.injEq] at h
    have h1 := ha x (by simp); have h2 := hb y (by simp)
    have e := congrArg UInt8.toNat h.1
    rw [UInt8.toNat_ofNat', UInt8.toNat_ofNat'] at e
    rw [b2s_inj (fun z hz => ha z (by simp [hz])) (fun z hz => hb z (by simp [hz])) h.2, show x = y by omega]
theorem b2s_beq {a b : List Int} (ha : isB a) (hb : isB b) : (b2s a == b2s b) = (a == b) := by
  rw [Bool.eq_iff_iff]
  simp only [beq_iff_eq]
  exact ⟨b2s_inj ha hb, fun e => by rw [e]⟩
theorem rd_at (l : List Int) (i : Nat) (hi : i < l.length) : rd l (i : Int) = l[i] := by simp [rd, List.getD, hi]
theorem ar_at (l : List Int) (i : Nat) (hi : i < l.length) : ar l i = l[i] := by simp [ar, List.getD, hi]
theorem arL_self (l : List Int) : arL l.length l = l := by
  apply List.ext_getElem
  · simp [arL]
  · intro i h1 h2
    simp [arL, ar_at l i h2]
/-! trimming zeros -/
theorem tr_nil (k : Nat) : bytes_trimRightByte.l0 0 (k + 1) [] = some [] := by unfold bytes_trimRightByte.l0; simp
theorem tr_snoc (k : Nat) (y : List Int) (c : Int) (h : y.length ≤ 100) : bytes_trimRightByte.l0 0 (k + 1) (y ++ [c]) = if c = 0 then bytes_trimRightByte.l0 0 k y else some (y ++ [c]) := by
  rw [bytes_trimRightByte.l0]
  have hl : (y ++ [c]).length = y.length + 1 := by simp
  have e : IntKind.i64.wrap (((y ++ [c]).length : Int) - 1) = (y.length : Int) := by rw [hl, IntKind.wrap_i64]; omega
  have er : rd (y ++ [c]) (y.length : Int) = c := by rw [rd_at _ _ (by simp)]; simp
  rw [e, er, if_pos (by simp <;> omega), if_pos (by rw [hl]; omega), Option.bind_some]
  by_cases hc : c = 0
  · rw [if_pos (by simpa using hc), if_pos (by rw [hl]; simp <;> omega), if_pos hc]
    simp
  · rw [if_neg (by simpa using hc), if_neg hc]
theorem tr_ok : ∀ (n k : Nat) (x : List Int), x.length = n → n < k → n ≤ 100 → ∃ r, bytes_trimRightByte.l0 0 k x = some r ∧ r.length ≤ x.length ∧ r.all (· == 0) = x.all (· == 0)
  | 0, k, x, h, hk, _ => by
    obtain ⟨k, rfl⟩ : ∃ k', k = k' + 1 := ⟨k - 1, by omega⟩
    obtain rfl := List.eq_nil_of_length_eq_zero h
    exact ⟨[], tr_nil k, Nat.le_refl _, rfl⟩
  | n + 1, k, x, h, hk, hn => by
    obtain ⟨k, rfl⟩ : ∃ k', k = k' + 1 := ⟨k - 1, by omega⟩
    have hne : x ≠ [] := by intro e; subst e; simp at h
    have hx : x = x.dropLast ++ [x.getLast hne] := (List.dropLast_concat_getLast hne).symm
    have hd : x.dropLast.length = n := by simp [h]
    generalize x.dropLast = y at hx hd
    generalize x.getLast hne = c at hx
    subst hx
    rw [tr_snoc k y c (by omega)]
    by_cases hc : c = 0
    · obtain ⟨r, h1, h2, h3⟩ := tr_ok n k y hd (by omega) (by omega)
      exact ⟨r, by rw [if_pos hc]; exact h1, by simp; omega, by rw [h3]; simp [hc]⟩
    · exact ⟨_, if_neg hc, Nat.le_refl _, rfl⟩
theorem tl_nil (k : Nat) : bytes_trimLeftByte.l0 0 (k + 1) [] = some [] := by unfold bytes_trimLeftByte.l0; simp
theorem tl_cons (k : Nat) (y : List Int) (c : Int) : bytes_trimLeftByte.l0 0 (k + 1) (c :: y) = if c = 0 then bytes_trimLeftByte.l0 0 k y else some (c :: y) := by
  rw [bytes_trimLeftByte.l0]
  have er : rd (c :: y) 0 = c := rfl
  rw [er, if_pos (by simp <;> omega), if_pos (by simp <;> omega), Option.bind_some]
  by_cases hc : c = 0
  · rw [if_pos (by simpa using hc), if_pos (by simp <;> omega), if_pos hc]
    simp
  · rw [if_neg (by simpa using hc), if_neg hc]
theorem tl_ok : ∀ (x : List Int) (k : Nat), x.length < k → ∃ r, bytes_trimLeftByte.l0 0 k x = some r ∧ (((r.length : Int) == 0) = x.all (· == 0))
  | [], k, hk => by
    obtain ⟨k, rfl⟩ : ∃ k', k = k' + 1 := ⟨k - 1, by omega⟩
    exact ⟨[], tl_nil k, rfl⟩
  | c :: y, k, hk => by
    obtain ⟨k, rfl⟩ : ∃ k', k = k' + 1 := ⟨k - 1, by omega⟩
    rw [tl_cons]
    by_cases hc : c = 0
    · obtain ⟨r, h1, h2⟩ := tl_ok y k (by simp at hk; omega)
      exact ⟨r, by rw [if_pos hc]; exact h1, by rw [h2]; simp [hc]⟩
    · refine ⟨_, if_neg hc, ?_⟩
      have : (c == 0) = false := by simpa using hc
      simp only [List.all_cons, this, Bool.false_and]
      simp
      omega
theorem trim_ok (k : Nat) (x : List Int) (hx : x.length ≤ 16) : ∃ r, bytes_Trim.f (k + 20) x [0] = some r ∧ (((r.length : Int) == 0) = x.all (· == 0)) := by
  by_cases h0 : x.length = 0
  · obtain rfl := List.eq_nil_of_length_eq_zero h0
    exact ⟨[], rfl, rfl⟩
  · obtain ⟨r, h1, h2, h3⟩ := tr_ok x.length (k + 20) x rfl (by omega) (by omega)
    obtain ⟨r', h4, h5⟩ := tl_ok r (k + 20) (by omega)
    have e : bytes_Trim.f (k + 20) x [0] = (bytes_trimRightByte.f (k + 20) x 0).bind fun t21 => (bytes_trimLeftByte.f (k + 20) t21 0).bind fun t24 => some t24 := by
      unfold bytes_Trim.f
      have hs : (((bstr ([0] : List UInt8)).size : Int) == (1 : Int)) = true := rfl
      have ez : ((([0] : List UInt8).getD (Int.toNat (0 : Int)) 0).toNat : Int) = 0 := rfl
      rw [if_neg (by simpa using h0), if_neg (by rw [bstr_toList, bstr_toList]; decide), if_pos hs, ez, if_pos (by decide), Option.bind_some, if_pos (by decide), if_pos (by decide), if_pos (by decide)]
    rw [e]
    unfold bytes_trimRightByte.f bytes_trimLeftByte.f
    rw [h1, Option.bind_some, Option.bind_some, h4, Option.bind_some]
    by_cases hr : r'.length = 0
    · obtain rfl := List.eq_nil_of_length_eq_zero hr
      exact ⟨[], rfl, by rw [← h3, ← h5]⟩
    · rw [if_neg (by simpa using hr)]
      exact ⟨r', rfl, by rw [h5, h3]⟩
/-! addresses -/
def isSz (n : Int) : Bool := n == 0 || n == 4 || n == 16
def rightB (a : S_api_Addr) : Bool := isSz a.Size && ((arL 16 a.B).drop a.Size.toNat).all (· == 0)
theorem isSz_or {n : Int} (h : isSz n = true) : n = 0 ∨ n = 4 ∨ n = 16 := by
  unfold isSz at h
  simp only [Bool.or_eq_true, beq_iff_eq] at h
  omega
theorem right_go (k : Nat) (a : S_api_Addr) (h : a.Size = 0 ∨ a.Size = 4 ∨ a.Size = 16) : addr_Right.f (k + 20) a = some (((arL 16 a.B).drop a.Size.toNat).all (· == 0)) := by
  have h16 : (arL 16 a.B).length = 16 := arL_length _ _
  have ht : (arL 16 a.B).take (Int.toNat 16) = arL 16 a.B := by rw [List.take_of_length_le]; rw [h16]; exact Nat.le_refl _
  obtain ⟨r, h1, h2⟩ := trim_ok k ((arL 16 a.B).drop a.Size.toNat) (by rw [List.length_drop, h16]; omega)
  have hc : (if (a.Size == (0 : Int)) = true then some (a.Size == (0 : Int) : Bool) else (if (a.Size == (4 : Int)) = true then some (a.Size == (4 : Int) : Bool) else some (a.Size == (16 : Int) : Bool))) = some true := by
    rcases h with h | h | h <;> simp [h]
  unfold addr_Right.f
  rw [ht, hc, Option.bind_some, if_pos rfl, if_pos (by omega), h1, Option.bind_some, h2]
theorem right_ok (k : Nat) (a : S_api_Addr) : addr_Right.f (k + 20) a = some (rightB a) := by
  by_cases h : a.Size = 0 ∨ a.Size = 4 ∨ a.Size = 16
  · rw [right_go k a h]
    have : isSz a.Size = true := by unfold isSz; simp; omega
    unfold rightB
    rw [this, Bool.true_and]
  · have h0 : ¬ a.Size = 0 := by omega
    have h4 : ¬ a.Size = 4 := by omega
    have h16 : ¬ a.Size = 16 := by omega
    unfold addr_Right.f rightB isSz
    simp [h0, h4, h16]
def zeros : List Int := List.replicate 16 0
theorem of_ok (b : List Int) : addr_Of.f b = some (if isSz b.length = true then (⟨b.length, arC 16 zeros b⟩, 0) else (⟨0, zeros⟩, 1)) := by
  have hc : ∀ n : Int, (if (n == (0 : Int)) = true then some (n == (0 : Int) : Bool) else (if (n == (4 : Int)) = true then some (n == (4 : Int) : Bool) else some (n == (16 : Int) : Bool))) = some (isSz n) := by
    intro n
    unfold isSz
    cases h : (n == 0) <;> cases h' : (n == 4) <;> simp
  unfold addr_Of.f
  rw [hc, Option.bind_some]
  cases isSz (b.length : Int) <;> rfl
def rootL (a : S_api_Addr) : List Int := (arL 16 a.B).take a.Size.toNat
theorem addrbytes_ok (k : Nat) (a : S_api_Addr) (h : rightB a = true) : addr_Bytes.f (k + 20) a = some (rootL a) := by
  unfold addr_Bytes.f
  have hs : a.Size = 0 ∨ a.Size = 4 ∨ a.Size = 16 := isSz_or (by unfold rightB at h; simp only [Bool.and_eq_true] at h; exact h.1)
  rw [right_ok, h, Option.bind_some, if_neg (by simp), if_pos (by omega), clone_ok _ (by simp [arL_length]; omega), Option.bind_some]
  rfl
theorem rootL_length (a : S_api_Addr) (h : rightB a = true) : ((rootL a).length : Int) = a.Size := by
  have hs : a.Size = 0 ∨ a.Size = 4 ∨ a.Size = 16 := isSz_or (by unfold rightB at h; simp only [Bool.and_eq_true] at h; exact h.1)
  unfold rootL
  rw [List.length_take, arL_length]
  omega
theorem root_back (a : S_api_Addr) (h : rightB a = true) (hl : a.B.length = 16) : (⟨((rootL a).length : Int), arC 16 zeros (rootL a)⟩ : S_api_Addr) = a := by
  have hs : a.Size = 0 ∨ a.Size = 4 ∨ a.Size = 16 := isSz_or (by unfold rightB at h; simp only [Bool.and_eq_true] at h; exact h.1)
  have hz : ((arL 16 a.B).drop a.Size.toNat).all (· == 0) = true := by unfold rightB at h; simp only [Bool.and_eq_true] at h; exact h.2
  have hB : arL 16 a.B = a.B := by rw [← hl]; exact arL_self _
  rw [hB] at hz
  have hr := rootL_length a h
  obtain ⟨S, B⟩ := a
  simp only [S_api_Addr.mk.injEq] at *
  refine ⟨hr, ?_⟩
  apply List.ext_getElem
  · rw [arC_length, hl]
  · intro i h1 h2
    have hi : i < 16 := by rw [arC_length] at h1; exact h1
    rw [← ar_at _ i h1, ar_arC _ _ _ _ hi]
    have hrl : (rootL ⟨S, B⟩).length = S.toNat := by omega
    by_cases hlt : i < S.toNat
    · rw [if_pos (by omega)]
      have : rootL ⟨S, B⟩ = B.take S.toNat := by unfold rootL; simp only; rw [hB]
      rw [this, ar_at _ _ (by simp <;> omega)]
      simp
    · rw [if_neg (by omega)]
      have hm : B[i] ∈ B.drop S.toNat := by
        have e : (B.drop S.toNat)[i - S.toNat]? = some B[i] := by rw [List.getElem?_drop, show S.toNat + (i - S.toNat) = i by omega, List.getElem?_eq_getElem h2]
        exact List.mem_of_getElem? e
      have hz' := List.all_eq_true.1 hz B[i] hm
      have : B[i] = 0 := by simpa using hz'
      rw [this]
      unfold zeros ar
      rw [List.getD_eq_getElem?_getD, List.getElem?_replicate, if_pos hi]
      rfl
theorem rootL_isB (a : S_api_Addr) (h : isB a.B) (hl : a.B.length = 16) : isB (rootL a) := by
  have hB : arL 16 a.B = a.B := by rw [← hl]; exact arL_self _
  intro y hy
  unfold rootL at hy
  rw [hB] at hy
  exact h y (List.mem_of_mem_take hy)
/-! tunnels -/
def mcastB (a : S_api_Addr) : Bool := rightB a && (if a.Size = 4 then Int.fdiv (ar a.B 0) (2 ^ (min (4 : Int).toNat IntKind.u8.bits)) == 14 else a.Size == 16 && ar a.B 0 == 255)
theorem mcast_ok (k : Nat) (a : S_api_Addr) : addr_Multicast.f (k + 20) a = some (mcastB a) := by
  unfold addr_Multicast.f mcastB
  rw [right_ok, Option.bind_some]
  cases rightB a
  · rfl
  · simp only [Bool.not_true, Bool.false_eq_true, if_false, Bool.true_and]
    by_cases h4 : a.Size = 4
    · simp [h4]
    · by_cases h16 : a.Size = 16
      · simp [h16]
      · simp [h4, h16]
def rightT (t : S_api_Tunnel) : Bool :=
  rightB t.Root && (decide (0 ≤ t.Label) && (decide (t.Label ≤ 1048575) &&
  (if t.Kind = 0 then IntKind.i64.wrap (t.Root.Size + (t.Id.length : Int)) == 0
   else if t.Kind = 1 then t.Root.Size == 4 && (t.Id.length : Int) == 6
   else if t.Kind = 2 ∨ t.Kind = 7 then decide (t.Root.Size > 0) && decide ((t.Id.length : Int) ≤ 64)
   else if t.Kind = 3 ∨ t.Kind = 4 ∨ t.Kind = 5 then isSz t.Id.length && ((t.Id.length : Int) == t.Root.Size && mcastB ⟨t.Id.length, arC 16 zeros t.Id⟩)
   else if t.Kind = 6 then decide (t.Root.Size > 0) && (t.Id.length : Int) == 0
   else false)))
theorem iteB (p q : Bool) : (if p = true then some q else some false) = some (p && q) := by cases p <;> rfl
theorem pright_ok (k : Nat) (t : S_api_Tunnel) : pmsi_Right.f (k + 20) t = some (rightT t) := by
  unfold pmsi_Right.f rightT
  rw [right_ok, Option.bind_some]
  cases rightB t.Root
  · rfl
  · simp only [Bool.not_true, Bool.false_eq_true, if_false, Bool.true_and]
    by_cases hl : t.Label < 0
    · have : ¬ 0 ≤ t.Label := by omega
      simp [hl, this]
    · have hl' : 0 ≤ t.Label := by omega
      by_cases hm : t.Label > 1048575
      · have : ¬ t.Label ≤ 1048575 := by omega
        simp [hl, hl', hm, this]
      · have hm' : t.Label ≤ 1048575 := by omega
        simp only [hl, hl', hm, hm', decide_false, decide_true, Bool.false_eq_true, if_false, Option.bind_some, Bool.true_and]
        by_cases k0 : t.Kind = 0
        · simp [k0]
        by_cases k1 : t.Kind = 1
        · rw [iteB]; simp [k1]
        by_cases k27 : t.Kind = 2 ∨ t.Kind = 7
        · rw [iteB, iteB]; rcases k27 with h | h <;> simp [h]
        by_cases k345 : t.Kind = 3 ∨ t.Kind = 4 ∨ t.Kind = 5
        · rw [of_ok]
          have e2 : ¬ t.Kind = 2 := by omega
          have e7 : ¬ t.Kind = 7 := by omega
          simp only [k0, k1, k27, k345, if_true, if_false, e2, e7, beq_iff_eq, Bool.false_eq_true, Option.bind_some, beq_eq_false_iff_ne.2 e2, beq_eq_false_iff_ne.2 e7]
          have e : (if (t.Kind == 3) = true then some (t.Kind == 3) else if (t.Kind == 4) = true then some (t.Kind == 4) else some (t.Kind == 5)) = some true := by
            rcases k345 with h | h | h <;> simp [h]
          simp only [beq_iff_eq] at e
          rw [e, Option.bind_some, if_pos rfl]
          cases hz : isSz (t.Id.length : Int)
          · simp
          · simp only [if_true, mcast_ok]
            by_cases hs : (t.Id.length : Int) = t.Root.Size
            · simp [hs]
            · simp [hs]
        · have h2 : ¬ t.Kind = 2 := by omega
          have h7 : ¬ t.Kind = 7 := by omega
          have h3 : ¬ t.Kind = 3 := by omega
          have h4 : ¬ t.Kind = 4 := by omega
          have h5 : ¬ t.Kind = 5 := by omega
          by_cases k6 : t.Kind = 6
          · rw [iteB, iteB, iteB]; simp [k6]
          · simp [k0, k1, h2, h7, h3, h4, h5, k6]
theorem right_cases (t : S_api_Tunnel) (h : rightT t = true) (hI : t.Id.length ≤ 140737488351232) : rightB t.Root = true ∧ 0 ≤ t.Label ∧ t.Label ≤ 1048575 ∧
    ((t.Kind = 0 ∧ t.Root.Size = 0 ∧ t.Id = []) ∨ (t.Kind = 1 ∧ t.Root.Size = 4 ∧ t.Id.length = 6) ∨ ((t.Kind = 2 ∨ t.Kind = 7) ∧ 0 < t.Root.Size ∧ t.Id.length ≤ 64) ∨
     ((t.Kind = 3 ∨ t.Kind = 4 ∨ t.Kind = 5) ∧ (t.Id.length : Int) = t.Root.Size) ∨ (t.Kind = 6 ∧ t.Id = [])) := by
  unfold rightT at h
  simp only [Bool.and_eq_true, decide_eq_true_eq] at h
  obtain ⟨h1, h2, h3, h4⟩ := h
  have hs : t.Root.Size = 0 ∨ t.Root.Size = 4 ∨ t.Root.Size = 16 := isSz_or (by unfold rightB at h1; simp only [Bool.and_eq_true] at h1; exact h1.1)
  refine ⟨h1, h2, h3, ?_⟩
  split at h4
  · rename_i hk
    rw [w64 _ (by omega)] at h4
    have h5 : t.Root.Size + (t.Id.length : Int) = 0 := by simpa using h4
    exact .inl ⟨hk, by omega, List.eq_nil_of_length_eq_zero (by omega)⟩
  · split at h4
    · rename_i hk
      simp only [Bool.and_eq_true, beq_iff_eq] at h4
      exact .inr (.inl ⟨hk, h4.1, by omega⟩)
    · split at h4
      · rename_i hk
        simp only [Bool.and_eq_true, decide_eq_true_eq] at h4
        exact .inr (.inr (.inl ⟨hk, h4.1, by omega⟩))
      · split at h4
        · rename_i hk
          simp only [Bool.and_eq_true, beq_iff_eq] at h4
          exact .inr (.inr (.inr (.inl ⟨hk, h4.2.1⟩)))
        · split at h4
          · rename_i hk
            simp only [Bool.and_eq_true, beq_iff_eq] at h4
            exact .inr (.inr (.inr (.inr ⟨hk, List.eq_nil_of_length_eq_zero (by omega)⟩)))
          · cases h4
def famL (a : S_api_Addr) : Int := if a.Size = 4 then 1 else 2
def identL (t : S_api_Tunnel) : List Int :=
  if t.Kind = 1 then ((t.Id.take 4 ++ [0, 0]) ++ t.Id.drop 4) ++ rootL t.Root
  else if t.Kind = 7 then (([7, 0, famL t.Root, IntKind.u8.wrap t.Root.Size] ++ rootL t.Root) ++ putL t.Id.length 2) ++ t.Id
  else if t.Kind = 2 then (([6, 0, famL t.Root, IntKind.u8.wrap t.Root.Size] ++ rootL t.Root) ++ putL t.Id.length 2) ++ t.Id
  else rootL t.Root ++ t.Id
theorem fam_ok (a : S_api_Addr) : pmsi_family.f a = some (famL a) := by
  unfold pmsi_family.f famL
  by_cases h : a.Size = 4 <;> simp [h]
theorem rootL_le (a : S_api_Addr) : (rootL a).length ≤ 16 := by unfold rootL; rw [List.length_take, arL_length]; omega
theorem ident_ok (k : Nat) (t : S_api_Tunnel) (h : rightT t = true) (hI : t.Id.length ≤ 140737488351232) : pmsi_identifier.f (k + 20) t = some (identL t) := by
  obtain ⟨h1, h2, h3, h4⟩ := right_cases t h hI
  have hr := rootL_le t.Root
  unfold pmsi_identifier.f identL
  rw [addrbytes_ok k _ h1, Option.bind_some]
  by_cases k1 : t.Kind = 1
  · have hid : t.Id.length = 6 := by
      rcases h4 with h4 | h4 | h4 | h4 | h4 <;> omega
    have e1 : t.Id.take (Int.toNat (t.Id.length : Int)) = t.Id := by simp
    rw [if_pos (by simpa using k1), if_pos k1, if_pos (by omega), clone_ok _ (by simp <;> omega), Option.bind_some, if_pos (by simp <;> omega), if_pos (by omega), e1, if_pos (by simp <;> omega), if_pos (by simp <;> omega)]
    rfl
  · by_cases k7 : t.Kind = 7
    · have hid : t.Id.length ≤ 64 := by rcases h4 with h4 | h4 | h4 | h4 | h4 <;> omega
      have hp := putL_length (t.Id.length : Int) 2 (by omega) (by omega)
      rw [if_neg (by simpa using k1), if_pos (by simpa using k7), if_neg k1, if_pos k7, fam_ok, Option.bind_some, if_pos (by simp <;> omega),
        show (2 : Int) = ((2 : Nat) : Int) from rfl, put_ok (k + 15) _ _ 2 (by simp <;> omega) (by omega) (by omega) (by omega) (by omega), Option.bind_some, if_pos (by simp [hp]; omega)]
    · by_cases k2 : t.Kind = 2
      · have hid : t.Id.length ≤ 64 := by rcases h4 with h4 | h4 | h4 | h4 | h4 <;> omega
        have hp := putL_length (t.Id.length : Int) 2 (by omega) (by omega)
        rw [if_neg (by simpa using k1), if_neg (by simpa using k7), if_pos (by simpa using k2), if_neg k1, if_neg k7, if_pos k2, fam_ok, Option.bind_some, if_pos (by simp <;> omega),
          show (2 : Int) = ((2 : Nat) : Int) from rfl, put_ok (k + 15) _ _ 2 (by simp <;> omega) (by omega) (by omega) (by omega) (by omega), Option.bind_some, if_pos (by simp [hp]; omega)]
      · rw [if_neg (by simpa using k1), if_neg (by simpa using k7), if_neg (by simpa using k2), if_neg k1, if_neg k7, if_neg k2, if_pos (by omega)]
def leafL (b : Bool) : Int := if b = true then 1 else 0
def bytesT (t : S_api_Tunnel) : List Int := ([leafL t.Leaf, IntKind.u8.wrap t.Kind] ++ putL (16 * t.Label) 3) ++ identL t
theorem identL_le (t : S_api_Tunnel) (h : rightT t = true) (hI : t.Id.length ≤ 140737488351232) : (identL t).length ≤ t.Id.length + 22 := by
  have hr := rootL_le t.Root
  have hp : ∀ n : Int, (putL n 2).length = 2 := fun n => rfl
  unfold identL
  split
  · simp; omega
  · split
    · simp [hp]; omega
    · split
      · simp [hp]; omega
      · simp; omega
theorem label_ok (k : Nat) (l : Int) (h0 : 0 ≤ l) (h1 : l ≤ 1048575) : label_Bytes.f (k + 20) l false = some (putL (16 * l) 3, 0) := by
  unfold label_Bytes.f
  have e : IntKind.i64.wrap (l * 2 ^ (min (4 : Int).toNat IntKind.i64.bits)) = 16 * l := by
    have : (2 : Int) ^ (min (4 : Int).toNat IntKind.i64.bits) = 16 := rfl
    rw [this, w64 _ (by omega)]; omega
  rw [if_neg (by simp <;> omega), e]
  simp only [Bool.false_eq_true, if_false, Option.bind_some]
  rw [show (3 : Int) = ((3 : Nat) : Int) from rfl, put_ok (k + 15) [] _ 3 (by simp) (by omega) (by omega) (by omega) (by omega)]
  rfl
theorem pbytes_ok (k : Nat) (t : S_api_Tunnel) (hI : t.Id.length ≤ 140737488351232) : pmsi_Bytes.f (k + 20) t = some (if rightT t = true then (bytesT t, 0) else ([], 1)) := by
  unfold pmsi_Bytes.f
  rw [pright_ok, Option.bind_some]
  cases h : rightT t
  · simp
  · obtain ⟨h1, h2, h3, _⟩ := right_cases t h hI
    have hl := identL_le t h hI
    have hp : (putL (16 * t.Label) 3).length = 3 := rfl
    simp only [Bool.not_true, Bool.false_eq_true, if_false, if_true]
    have e : (if t.Leaf = true then some ((1 : Int) : Int) else some ((0 : Int) : Int)) = some (leafL t.Leaf) := by unfold leafL; split <;> rfl
    rw [e, Option.bind_some, label_ok k _ h2 h3, Option.bind_some, if_pos (by simp [hp]), ident_ok k t h hI, Option.bind_some, if_pos (by simp [hp]; omega)]
    rfl
theorem small09 (k : Nat) : vinerylaw09_small.f (k + 20) = some true := by
  unfold vinerylaw09_small.f
  rfl
def routerB (a : S_api_Addr) : Bool := (a.Size == 4) && rightB a
theorem router_ok (k : Nat) (a : S_api_Addr) : attr_router.f (k + 20) a = some (routerB a) := by
  unfold attr_router.f routerB
  rw [right_ok]
  cases a.Size == 4 <;> simp
theorem right1_ok (k : Nat) (a : S_api_Addr) : attr_Right_1.f (k + 20) a = some (!routerB a) := by
  unfold attr_Right_1.f
  rw [router_ok, Option.bind_some]
theorem right2_ok (k : Nat) (t : S_api_Tunnel) : attr_Right_2.f (k + 20) t = some (!rightT t) := by
  unfold attr_Right_2.f
  rw [pright_ok, Option.bind_some]
def num32 (n : Int) : Bool := !(if (decide (n < (0 : Int))) = true then true else (decide (n > (4294967295 : Int))))
theorem wrong1_ok (n : Int) : attr_wrong_1.f n = some (!num32 n) := by unfold attr_wrong_1.f num32; rw [Bool.not_not]
theorem cl_l0 (k : Nat) (l : List S_api_Addr) (hl : l.length ≤ 140737488351232) : ∀ (m kk i : Nat), i + m = l.length → m < kk → ∃ r, api_Addr_92_attr_Right_1.l0 (k + 20) l kk (i : Int) = some r ∧ ((r = .inr () ∧ ∀ x ∈ l.drop i, routerB x = true) ∨ ∃ j : Int, r = .inl j ∧ 0 ≤ j)
  | 0, kk + 1, i, h, _ => ⟨.inr (), by rw [api_Addr_92_attr_Right_1.l0, if_neg (by simp; omega)], .inl ⟨rfl, by rw [List.drop_of_length_le (by omega)]; exact fun _ h => nomatch h⟩⟩
  | m + 1, kk + 1, i, h, hk => by
    have hi : i < l.length := by omega
    have e : IntKind.i64.wrap ((i : Int) + 1) = ((i + 1 : Nat) : Int) := by rw [w64 _ (by omega)]; omega
    have er : rd l (i : Int) = l[i] := by simp [rd, List.getD, hi]
    rw [api_Addr_92_attr_Right_1.l0, if_pos (by simp; omega), if_pos ⟨by omega, by omega⟩, er, e, right1_ok, Option.bind_some, List.drop_eq_getElem_cons hi]
    by_cases hp : routerB l[i] = true
    · rw [if_neg (by simp [hp])]
      obtain ⟨r, h1, h2⟩ := cl_l0 k l hl m kk (i + 1) (by omega) (by omega)
      refine ⟨r, h1, h2.imp (fun ⟨a, b⟩ => ⟨a, fun x hx => ?_⟩) id⟩
      rcases List.mem_cons.1 hx with rfl | hx
      · exact hp
      · exact b x hx
    · rw [if_pos (by simp [hp])]
      exact ⟨.inl (i : Int), rfl, .inr ⟨(i : Int), rfl, by omega⟩⟩
theorem cl_f (k K : Nat) (l : List S_api_Addr) (hl : l.length ≤ 140737488351232) (hK : l.length < K) (he : K = k + 20) : ∃ b, api_Addr_attr_Right_1.f (k + 20) l = some b ∧ (b = false → ∀ x ∈ l, routerB x = true) := by
  subst he
  obtain ⟨r, h1, h2⟩ := cl_l0 k l hl l.length (k + 20) 0 (by omega) hK
  unfold api_Addr_attr_Right_1.f api_Addr_92_attr_Right_1.f
  rw [show api_Addr_92_attr_Right_1.l0 (k + 20) l (k + 20) 0 = _ from h1, Option.bind_some]
  rcases h2 with ⟨rfl, h2⟩ | ⟨j, rfl, h2⟩
  · exact ⟨false, rfl, fun _ => by simpa using h2⟩
  · exact ⟨true, by simp [h2], fun h => nomatch h⟩
theorem tn_l0 (k : Nat) (l : List S_api_Tunnel) (hl : l.length ≤ 140737488351232) : ∀ (m kk i : Nat), i + m = l.length → m < kk → ∃ r, api_Tunnel_93_attr_Right_2.l0 (k + 20) l kk (i : Int) = some r ∧ ((r = .inr () ∧ ∀ x ∈ l.drop i, rightT x = true) ∨ ∃ j : Int, r = .inl j ∧ 0 ≤ j)
  | 0, kk + 1, i, h, _ => ⟨.inr (), by rw [api_Tunnel_93_attr_Right_2.l0, if_neg (by simp; omega)], .inl ⟨rfl, by rw [List.drop_of_length_le (by omega)]; exact fun _ h => nomatch h⟩⟩
  | m + 1, kk + 1, i, h, hk => by
    have hi : i < l.length := by omega
    have e : IntKind.i64.wrap ((i : Int) + 1) = ((i + 1 : Nat) : Int) := by rw [w64 _ (by omega)]; omega
    have er : rd l (i : Int) = l[i] := by simp [rd, List.getD, hi]
    rw [api_Tunnel_93_attr_Right_2.l0, if_pos (by simp; omega), if_pos ⟨by omega, by omega⟩, er, e, right2_ok, Option.bind_some, List.drop_eq_getElem_cons hi]
    by_cases hp : rightT l[i] = true
    · rw [if_neg (by simp [hp])]
      obtain ⟨r, h1, h2⟩ := tn_l0 k l hl m kk (i + 1) (by omega) (by omega)
      refine ⟨r, h1, h2.imp (fun ⟨a, b⟩ => ⟨a, fun x hx => ?_⟩) id⟩
      rcases List.mem_cons.1 hx with rfl | hx
      · exact hp
      · exact b x hx
    · rw [if_pos (by simp [hp])]
      exact ⟨.inl (i : Int), rfl, .inr ⟨(i : Int), rfl, by omega⟩⟩
theorem tn_f (k K : Nat) (l : List S_api_Tunnel) (hl : l.length ≤ 140737488351232) (hK : l.length < K) (he : K = k + 20) : ∃ b, api_Tunnel_attr_Right_2.f (k + 20) l = some b ∧ (b = false → ∀ x ∈ l, rightT x = true) := by
  subst he
  obtain ⟨r, h1, h2⟩ := tn_l0 k l hl l.length (k + 20) 0 (by omega) hK
  unfold api_Tunnel_attr_Right_2.f api_Tunnel_93_attr_Right_2.f
  rw [show api_Tunnel_93_attr_Right_2.l0 (k + 20) l (k + 20) 0 = _ from h1, Option.bind_some]
  rcases h2 with ⟨rfl, h2⟩ | ⟨j, rfl, h2⟩
  · exact ⟨false, rfl, fun _ => by simpa using h2⟩
  · exact ⟨true, by simp [h2], fun h => nomatch h⟩
theorem as_l0 (k : Nat) (l : List Int) (hl : l.length ≤ 140737488351232) : ∀ (m kk i : Nat), i + m = l.length → m < kk → ∃ r, slices_IndexFunc_int_int_attr_wrong_1.l0 l kk (i : Int) = some r ∧ ((r = .inr () ∧ ∀ x ∈ l.drop i, num32 x = true) ∨ ∃ j : Int, r = .inl j ∧ 0 ≤ j)
  | 0, kk + 1, i, h, _ => ⟨.inr (), by rw [slices_IndexFunc_int_int_attr_wrong_1.l0, if_neg (by simp; omega)], .inl ⟨rfl, by rw [List.drop_of_length_le (by omega)]; exact fun _ h => nomatch h⟩⟩
  | m + 1, kk + 1, i, h, hk => by
    have hi : i < l.length := by omega
    have e : IntKind.i64.wrap ((i : Int) + 1) = ((i + 1 : Nat) : Int) := by rw [w64 _ (by omega)]; omega
    have er : rd l (i : Int) = l[i] := by simp [rd, List.getD, hi]
    rw [slices_IndexFunc_int_int_attr_wrong_1.l0, if_pos (by simp; omega), if_pos ⟨by omega, by omega⟩, er, e, wrong1_ok, Option.bind_some, List.drop_eq_getElem_cons hi]
    by_cases hp : num32 l[i] = true
    · rw [if_neg (by simp [hp])]
      obtain ⟨r, h1, h2⟩ := as_l0 k l hl m kk (i + 1) (by omega) (by omega)
      refine ⟨r, h1, h2.imp (fun ⟨a, b⟩ => ⟨a, fun x hx => ?_⟩) id⟩
      rcases List.mem_cons.1 hx with rfl | hx
      · exact hp
      · exact b x hx
    · rw [if_pos (by simp [hp])]
      exact ⟨.inl (i : Int), rfl, .inr ⟨(i : Int), rfl, by omega⟩⟩
theorem as_f (k K : Nat) (l : List Int) (hl : l.length ≤ 140737488351232) (hK : l.length < K) (he : K = k + 20) : ∃ b, slices_ContainsFunc_int_int_attr_wrong_1.f (k + 20) l = some b ∧ (b = false → ∀ x ∈ l, num32 x = true) := by
  subst he
  obtain ⟨r, h1, h2⟩ := as_l0 k l hl l.length (k + 20) 0 (by omega) hK
  unfold slices_ContainsFunc_int_int_attr_wrong_1.f slices_IndexFunc_int_int_attr_wrong_1.f
  rw [show slices_IndexFunc_int_int_attr_wrong_1.l0 l (k + 20) 0 = _ from h1, Option.bind_some]
  rcases h2 with ⟨rfl, h2⟩ | ⟨j, rfl, h2⟩
  · exact ⟨false, rfl, fun _ => by simpa using h2⟩
  · exact ⟨true, by simp [h2], fun h => nomatch h⟩
theorem wrong_ok (k : Nat) (s : S_api_Segment) (h : s.AS.length ≤ 1000) (hk : 2000 ≤ k) : ∃ b, attr_wrong.f (k + 20) s = some b ∧ (b = false → s.AS.length ≤ 255) := by
  obtain ⟨c, h1, _⟩ := as_f k (k + 20) s.AS (by omega) (by omega) rfl
  unfold attr_wrong.f
  by_cases h2 : (s.AS.length : Int) < 1
  · exact ⟨true, by simp [h2], fun h => nomatch h⟩
  · by_cases h3 : (s.AS.length : Int) > 255
    · exact ⟨true, by simp [h2, h3], fun h => nomatch h⟩
    · exact ⟨c, by simp [h2, h3, h1], fun _ => by omega⟩
theorem sg_l0 (k : Nat) (l : List S_api_Segment) (hl : l.length ≤ 140737488351232) (hs : ∀ s ∈ l, s.AS.length ≤ 1000) (hk2 : 2000 ≤ k) : ∀ (m kk i : Nat), i + m = l.length → m < kk → ∃ r, api_Segment_110_attr_wrong.l0 (k + 20) l kk (i : Int) = some r ∧ ((r = .inr () ∧ ∀ x ∈ l.drop i, x.AS.length ≤ 255) ∨ ∃ j : Int, r = .inl j ∧ 0 ≤ j)
  | 0, kk + 1, i, h, _ => ⟨.inr (), by rw [api_Segment_110_attr_wrong.l0, if_neg (by simp; omega)], .inl ⟨rfl, by rw [List.drop_of_length_le (by omega)]; exact fun _ h => nomatch h⟩⟩
  | m + 1, kk + 1, i, h, hk => by
    have hi : i < l.length := by omega
    have e : IntKind.i64.wrap ((i : Int) + 1) = ((i + 1 : Nat) : Int) := by rw [w64 _ (by omega)]; omega
    have er : rd l (i : Int) = l[i] := by simp [rd, List.getD, hi]
    obtain ⟨b, hb, hb2⟩ := wrong_ok k l[i] (hs _ (List.getElem_mem hi)) hk2
    rw [api_Segment_110_attr_wrong.l0, if_pos (by simp; omega), if_pos ⟨by omega, by omega⟩, er, e, hb, Option.bind_some, List.drop_eq_getElem_cons hi]
    cases b with
    | false =>
      rw [if_neg (by simp)]
      obtain ⟨r, h1, h2⟩ := sg_l0 k l hl hs hk2 m kk (i + 1) (by omega) (by omega)
      refine ⟨r, h1, h2.imp (fun ⟨a, b⟩ => ⟨a, fun x hx => ?_⟩) id⟩
      rcases List.mem_cons.1 hx with rfl | hx
      · exact hb2 rfl
      · exact b x hx
    | true =>
      rw [if_pos rfl]
      exact ⟨.inl (i : Int), rfl, .inr ⟨(i : Int), rfl, by omega⟩⟩
theorem path_f (k : Nat) (l : List S_api_Segment) (hl : l.length ≤ 1000) (hs : ∀ s ∈ l, s.AS.length ≤ 1000) (hk2 : 2000 ≤ k) : ∃ b, attr_rightPath.f (k + 20) l = some b ∧ (b = true → l.length ≤ 16 ∧ ∀ x ∈ l, x.AS.length ≤ 255) := by
  obtain ⟨r, h1, h2⟩ := sg_l0 k l (by omega) hs hk2 l.length (k + 20) 0 (by omega) (by omega)
  unfold attr_rightPath.f api_Segment_94_attr_wrong.f api_Segment_110_attr_wrong.f
  rw [show api_Segment_110_attr_wrong.l0 (k + 20) l (k + 20) 0 = _ from h1, Option.bind_some]
  by_cases h16 : (l.length : Int) ≤ 16
  · rcases h2 with ⟨rfl, h2⟩ | ⟨j, rfl, h2⟩
    · exact ⟨true, by simp [h16], fun _ => ⟨by omega, by simpa using h2⟩⟩
    · exact ⟨false, by simp [h16, h2], fun h => nomatch h⟩
  · exact ⟨false, by simp [h16], fun h => nomatch h⟩
structure RightX (x : S_api_Attrs) : Prop where
  o0 : 0 ≤ x.Origin
  o1 : x.Origin ≤ 2
  tn : x.Tunnels.length ≤ 1
  cl : ∀ c ∈ x.Clusters, routerB c = true
  cn : x.Clusters.length ≤ 32
  en : x.Exts.length ≤ 64
  pn : x.Path.length ≤ 16
  ps : ∀ s ∈ x.Path, s.AS.length ≤ 255
theorem rightA_ok (k : Nat) (x : S_api_Attrs) (h1 : x.Path.length ≤ 1000) (h2 : ∀ s ∈ x.Path, s.AS.length ≤ 1000) (h3 : x.Clusters.length ≤ 1000) (h4 : x.Tunnels.length ≤ 1000) (hk : 2000 ≤ k) : ∃ ok, attr_Right.f (k + 20) x = some ok ∧ (ok = true → RightX x) := by
  obtain ⟨p, hp, hp2⟩ := path_f k x.Path h1 h2 hk
  obtain ⟨c, hc, hc2⟩ := cl_f k (k + 20) x.Clusters (by omega) (by omega) rfl
  obtain ⟨t, ht, ht2⟩ := tn_f k (k + 20) x.Tunnels (by omega) (by omega) rfl
  unfold attr_Right.f
  rw [router_ok, hp, hc, ht]
  simp only [Option.bind_some]
  by_cases a1 : x.Origin < 0
  · exact ⟨false, by simp [a1], fun h => nomatch h⟩
  by_cases a2 : x.Origin > 2
  · exact ⟨false, by simp [a1, a2], fun h => nomatch h⟩
  by_cases a3 : x.Med < -1
  · exact ⟨false, by simp [a1, a2, a3], fun h => nomatch h⟩
  by_cases a4 : x.Med > 4294967295
  · exact ⟨false, by simp [a1, a2, a3, a4], fun h => nomatch h⟩
  by_cases a5 : x.Pref < -1
  · exact ⟨false, by simp [a1, a2, a3, a4, a5], fun h => nomatch h⟩
  by_cases a6 : x.Pref > 4294967295
  · exact ⟨false, by simp [a1, a2, a3, a4, a5, a6], fun h => nomatch h⟩
  simp only [a1, a2, a3, a4, a5, a6, decide_false, Bool.false_eq_true, if_false, Option.bind_some]
  by_cases a7 : (if (!((x.Originator.Size == (0 : Int)) && ((eqA 16 x.Originator.B (List.replicate 16 (0 : Int))) && true))) = true then some (!routerB x.Originator) else some (false : Bool)) = some true
  · exact ⟨false, by rw [a7]; rfl, fun h => nomatch h⟩
  have a8 : (if (!((x.Originator.Size == (0 : Int)) && ((eqA 16 x.Originator.B (List.replicate 16 (0 : Int))) && true))) = true then some (!routerB x.Originator) else some (false : Bool)) = some false := by
    split at a7 <;> rename_i q
    · rw [if_pos q]; cases hr : routerB x.Originator <;> simp_all
    · rw [if_neg q]
  rw [a8]
  simp only [Bool.false_eq_true, if_false, Option.bind_some]
  by_cases b1 : (x.Clusters.length : Int) > 32
  · exact ⟨false, by simp [b1], fun h => nomatch h⟩
  by_cases b2 : (x.Exts.length : Int) > 64
  · exact ⟨false, by simp [b1, b2], fun h => nomatch h⟩
  by_cases b3 : (x.Tunnels.length : Int) > 1
  · exact ⟨false, by simp [b1, b2, b3], fun h => nomatch h⟩
  simp only [b1, b2, b3, decide_false, Bool.false_eq_true, if_false, Option.bind_some]
  cases c with
  | true => exact ⟨false, by simp, fun h => nomatch h⟩
  | false =>
    cases t with
    | true => exact ⟨false, by simp, fun h => nomatch h⟩
    | false => exact ⟨p, by simp, fun h => ⟨by omega, by omega, by omega, hc2 rfl, by omega, by omega, (hp2 h).1, (hp2 h).2⟩⟩
theorem num_tot (k : Nat) (n : Int) : ∃ v, attr_num.f (k + 5) n = some v ∧ v.length ≤ 4 := by
  unfold attr_num.f
  by_cases h : n < 0 ∨ n ≥ 2 ^ (8 * 4)
  · rw [put_bad5 (k + 5) [] n 4 (by omega) (by omega) h]
    exact ⟨[], rfl, by simp⟩
  · rw [show (4 : Int) = ((4 : Nat) : Int) from rfl, put_ok k [] n 4 (by simp) (by omega) (by omega) (by omega) (by omega)]
    exact ⟨_, rfl, by simp [putL]⟩
theorem abytes_ok (k : Nat) (a : S_api_Addr) : ∃ v, addr_Bytes.f (k + 20) a = some v ∧ v.length ≤ 16 ∧ (routerB a = true → v.length = 4) := by
  unfold addr_Bytes.f
  rw [right_ok, Option.bind_some]
  cases hr : rightB a with
  | false => exact ⟨[], by simp, by simp, fun h => by unfold routerB at h; rw [hr] at h; simp at h⟩
  | true =>
    have hs : 0 ≤ a.Size ∧ a.Size ≤ 16 := by
      unfold rightB isSz at hr
      simp at hr
      omega
    have h16 : (arL 16 a.B).length = 16 := arL_length _ _
    rw [if_neg (by simp), if_pos ⟨by omega, hs.1, hs.2⟩, clone_ok _ (by simp [h16]; omega)]
    refine ⟨_, rfl, by simp [h16]; omega, fun h => ?_⟩
    unfold routerB at h
    simp at h
    simp [h16, h.1]
theorem wl0_ok (k : Nat) (cl : List S_api_Addr) (hl : cl.length ≤ 1000) (hr : ∀ c ∈ cl, routerB c = true) : ∀ (m kk i : Nat) (b : List Int), i + m = cl.length → m < kk → b.length = 4 * i → ∃ d, Write.l0 (k + 20) cl kk b (i : Int) = some d ∧ d.length = 4 * cl.length
  | 0, kk + 1, i, b, h, _, hb => ⟨b, by rw [Write.l0, if_neg (by simp; omega)], by omega⟩
  | m + 1, kk + 1, i, b, h, hk, hb => by
    have hi : i < cl.length := by omega
    have e : IntKind.i64.wrap ((i : Int) + 1) = ((i + 1 : Nat) : Int) := by rw [w64 _ (by omega)]; omega
    have er : rd cl (i : Int) = cl[i] := by simp [rd, List.getD, hi]
    obtain ⟨v, h1, h2, h3⟩ := abytes_ok k cl[i]
    have h4 := h3 (hr _ (List.getElem_mem hi))
    rw [Write.l0, if_pos (by simp; omega), if_pos ⟨by omega, by omega⟩, er, e, h1, Option.bind_some, if_pos (by omega)]
    exact wl0_ok k cl hl hr m kk (i + 1) (b ++ v) (by omega) (by omega) (by simp; omega)
theorem pb1_tot (k : Nat) (l : List S_api_Segment) (s : S_api_Segment) (x9 : Int) (hs : rd l x9 = s) (hl : s.AS.length ≤ 1000) : ∀ (m kk i : Nat) (b : List Int), i + m = s.AS.length → m < kk → b.length ≤ 1000000 + 4 * i → ∃ d, attr_pathBytes.l1 (k + 5) l x9 kk b (i : Int) = some d ∧ d.length ≤ b.length + 4 * m
  | 0, kk + 1, i, b, h, _, _ => ⟨b, by rw [attr_pathBytes.l1, hs, if_neg (by simp; omega)], by omega⟩
  | m + 1, kk + 1, i, b, h, hk, hb => by
    have e : IntKind.i64.wrap ((i : Int) + 1) = ((i + 1 : Nat) : Int) := by rw [w64 _ (by omega)]; omega
    obtain ⟨v, h1, h2⟩ := num_tot k (rd s.AS (i : Int))
    rw [attr_pathBytes.l1, hs, if_pos (by simp; omega), if_pos ⟨by omega, by omega⟩, e, h1, Option.bind_some, if_pos (by omega)]
    obtain ⟨d, h3, h4⟩ := pb1_tot k l s x9 hs hl m kk (i + 1) (b ++ v) (by omega) (by omega) (by simp; omega)
    exact ⟨d, h3, by simp at h4; omega⟩
theorem cb_tot (l : List (List Int)) (hl : l.length ≤ 1000) : ∀ (m kk i : Nat) (b : List Int), i + m = l.length → m < kk → b.length = 8 * i → ∃ d, community_Bytes.l0 l kk b (i : Int) = some d
  | 0, kk + 1, i, b, h, _, _ => ⟨b, by rw [community_Bytes.l0, if_neg (by simp; omega)]⟩
  | m + 1, kk + 1, i, b, h, hk, hb => by
    have e : IntKind.i64.wrap ((i : Int) + 1) = ((i + 1 : Nat) : Int) := by rw [w64 _ (by omega)]; omega
    have h8 : (arL 8 (rd l (i : Int))).length = 8 := arL_length _ _
    rw [community_Bytes.l0, if_pos (by simp; omega), if_pos ⟨by omega, by omega⟩, e, if_pos (by omega)]
    exact cb_tot l hl m kk (i + 1) _ (by omega) (by omega) (by simp [h8]; omega)
theorem pb0_tot (k : Nat) (l : List S_api_Segment) (hl : l.length ≤ 16) (hs : ∀ s ∈ l, s.AS.length ≤ 255) (hk2 : 2000 ≤ k) : ∀ (m kk i : Nat) (b : List Int), i + m = l.length → m < kk → b.length ≤ 1022 * i → ∃ d, attr_pathBytes.l0 (k + 5) l kk b (i : Int) = some d
  | 0, kk + 1, i, b, h, _, _ => ⟨b, by rw [attr_pathBytes.l0, if_neg (by simp; omega)]⟩
  | m + 1, kk + 1, i, b, h, hk, hb => by
    have hi : i < l.length := by omega
    have e : IntKind.i64.wrap ((i : Int) + 1) = ((i + 1 : Nat) : Int) := by rw [w64 _ (by omega)]; omega
    have er : rd l (i : Int) = l[i] := by simp [rd, List.getD, hi]
    have h255 := hs _ (List.getElem_mem hi)
    rw [attr_pathBytes.l0, if_pos (by simp; omega), if_pos ⟨by omega, by omega⟩, er, e]
    obtain ⟨s, hs34⟩ : ∃ s : Int, (if l[i].Set = true then some ((1 : Int) : Int) else some ((2 : Int) : Int)) = some s := by cases l[i].Set <;> exact ⟨_, rfl⟩
    rw [hs34, Option.bind_some, if_pos (by simp; omega)]
    obtain ⟨d, h1, h2⟩ := pb1_tot k l l[i] (i : Int) er (by omega) l[i].AS.length (k + 5) 0 (b ++ [s, IntKind.u8.wrap (l[i].AS.length : Int)]) (by omega) (by omega) (by simp; omega)
    rw [show attr_pathBytes.l1 (k + 5) l (i : Int) (k + 5) (b ++ [s, IntKind.u8.wrap (l[i].AS.length : Int)]) 0 = _ from h1, Option.bind_some]
    exact pb0_tot k l hl hs hk2 m kk (i + 1) d (by omega) (by omega) (by simp at h2; omega)
theorem fw0 (x : S_api_Attrs) (hl : x.Path.length ≤ 140737488351232) : ∀ (m kk i : Nat), i + m = x.Path.length → m < kk → ∃ r, vinerylaw09_Few.l0 x kk (i : Int) = some r ∧ (r = .inl false ∨ (r = .inr () ∧ ∀ s ∈ x.Path.drop i, s.AS.length ≤ 300))
  | 0, kk + 1, i, h, _ => ⟨.inr (), by rw [vinerylaw09_Few.l0, if_neg (by simp; omega)], .inr ⟨rfl, by rw [List.drop_of_length_le (by omega)]; exact fun _ h => nomatch h⟩⟩
  | m + 1, kk + 1, i, h, hk => by
    have hi : i < x.Path.length := by omega
    have e : IntKind.i64.wrap ((i : Int) + 1) = ((i + 1 : Nat) : Int) := by rw [w64 _ (by omega)]; omega
    have er : rd x.Path (i : Int) = x.Path[i] := by simp [rd, List.getD, hi]
    rw [vinerylaw09_Few.l0, if_pos (by simp; omega), if_pos ⟨by omega, by omega⟩, er, e, List.drop_eq_getElem_cons hi]
    by_cases hp : (x.Path[i].AS.length : Int) > 300
    · exact ⟨.inl false, by rw [if_pos (by simpa using hp)], .inl rfl⟩
    · rw [if_neg (by simpa using hp)]
      obtain ⟨r, h1, h2⟩ := fw0 x hl m kk (i + 1) (by omega) (by omega)
      refine ⟨r, h1, h2.imp id (fun ⟨a, b⟩ => ⟨a, fun s hs => ?_⟩)⟩
      rcases List.mem_cons.1 hs with rfl | hs
      · omega
      · exact b s hs
theorem fw1 (x : S_api_Attrs) (hl : x.Tunnels.length ≤ 140737488351232) : ∀ (m kk i : Nat), i + m = x.Tunnels.length → m < kk → ∃ r, vinerylaw09_Few.l1 x kk (i : Int) = some r ∧ (r = .inl false ∨ (r = .inr () ∧ ∀ s ∈ x.Tunnels.drop i, s.Id.length ≤ 1024))
  | 0, kk + 1, i, h, _ => ⟨.inr (), by rw [vinerylaw09_Few.l1, if_neg (by simp; omega)], .inr ⟨rfl, by rw [List.drop_of_length_le (by omega)]; exact fun _ h => nomatch h⟩⟩
  | m + 1, kk + 1, i, h, hk => by
    have hi : i < x.Tunnels.length := by omega
    have e : IntKind.i64.wrap ((i : Int) + 1) = ((i + 1 : Nat) : Int) := by rw [w64 _ (by omega)]; omega
    have er : rd x.Tunnels (i : Int) = x.Tunnels[i] := by simp [rd, List.getD, hi]
    rw [vinerylaw09_Few.l1, if_pos (by simp; omega), if_pos ⟨by omega, by omega⟩, er, e, List.drop_eq_getElem_cons hi]
    by_cases hp : (x.Tunnels[i].Id.length : Int) > 1024
    · exact ⟨.inl false, by rw [if_pos (by simpa using hp)], .inl rfl⟩
    · rw [if_neg (by simpa using hp)]
      obtain ⟨r, h1, h2⟩ := fw1 x hl m kk (i + 1) (by omega) (by omega)
      refine ⟨r, h1, h2.imp id (fun ⟨a, b⟩ => ⟨a, fun s hs => ?_⟩)⟩
      rcases List.mem_cons.1 hs with rfl | hs
      · omega
      · exact b s hs
theorem few_ok (k : Nat) (x : S_api_Attrs) (h1 : x.Path.length ≤ 140737488351232) (h2 : x.Tunnels.length ≤ 140737488351232) (hk : x.Path.length < k ∧ x.Tunnels.length < k) : ∃ b, vinerylaw09_Few.f k x = some b ∧ (b = true → x.Path.length < 20 ∧ (∀ s ∈ x.Path, s.AS.length ≤ 300) ∧ x.Clusters.length < 100 ∧ x.Exts.length < 200 ∧ x.Tunnels.length < 10 ∧ ∀ t ∈ x.Tunnels, t.Id.length ≤ 1024) := by
  obtain ⟨r, p1, p2⟩ := fw0 x h1 x.Path.length k 0 (by omega) hk.1
  obtain ⟨q, q1, q2⟩ := fw1 x h2 x.Tunnels.length k 0 (by omega) hk.2
  unfold vinerylaw09_Few.f
  rw [show vinerylaw09_Few.l0 x k 0 = _ from p1, Option.bind_some]
  rcases p2 with rfl | ⟨rfl, p2⟩
  · exact ⟨false, rfl, fun h => nomatch h⟩
  rw [show vinerylaw09_Few.l1 x k 0 = _ from q1]
  simp only [Option.bind_some]
  rcases q2 with rfl | ⟨rfl, q2⟩
  · exact ⟨false, rfl, fun h => nomatch h⟩
  by_cases a1 : (x.Path.length : Int) < 20
  · by_cases a2 : (x.Clusters.length : Int) < 100
    · by_cases a3 : (x.Exts.length : Int) < 200
      · by_cases a4 : (x.Tunnels.length : Int) < 10
        · exact ⟨true, by simp [a1, a2, a3, a4], fun _ => ⟨by omega, by simpa using p2, by omega, by omega, by omega, by simpa using q2⟩⟩
        · exact ⟨false, by simp [a1, a2, a3, a4], fun h => nomatch h⟩
      · exact ⟨false, by simp [a1, a2, a3], fun h => nomatch h⟩
    · exact ⟨false, by simp [a1, a2], fun h => nomatch h⟩
  · exact ⟨false, by simp [a1], fun h => nomatch h⟩
theorem outp_len2 (l : List S_api_Raw) (is : Bool) (f k : Int) (v : List Int) : (outp l is f k v).length ≤ l.length + 1 := by
  unfold outp; split <;> simp
def L7 (x : S_api_Attrs) (pb mb rb ob d eb : List Int) (c : Bool) : List S_api_Raw :=
  outp (outp (outp (outp (outp (outp (outp [] true 64 1 [IntKind.u8.wrap x.Origin]) true 64 2 pb) (decide (x.Med ≥ (0 : Int))) 128 4 mb) (decide (x.Pref ≥ (0 : Int))) 64 5 rb) (decide (x.Originator.Size > (0 : Int))) 128 9 ob) c 128 10 d) (decide ((x.Exts.length : Int) > (0 : Int))) 192 16 eb
theorem L7_len (x : S_api_Attrs) (pb mb rb ob d eb : List Int) (c : Bool) : (L7 x pb mb rb ob d eb c).length ≤ 7 := by
  unfold L7
  refine Nat.le_trans (outp_len2 _ _ _ _ _) (Nat.succ_le_succ (Nat.le_trans (outp_len2 _ _ _ _ _) (Nat.succ_le_succ (Nat.le_trans (outp_len2 _ _ _ _ _) (Nat.succ_le_succ (Nat.le_trans (outp_len2 _ _ _ _ _) (Nat.succ_le_succ (Nat.le_trans (outp_len2 _ _ _ _ _) (Nat.succ_le_succ (Nat.le_trans (outp_len2 _ _ _ _ _) (Nat.succ_le_succ (outp_len2 _ _ _ _ _))))))))))))
theorem write_ok (k : Nat) (x : S_api_Attrs) (h1 : x.Path.length ≤ 1000) (h2 : ∀ s ∈ x.Path, s.AS.length ≤ 1000) (h3 : x.Clusters.length ≤ 1000) (h4 : x.Tunnels.length ≤ 1000) (h5 : ∀ t ∈ x.Tunnels, t.Id.length ≤ 1024) (hk : 2000 ≤ k) :
    (attr_Right.f (k + 20) x = some false ∧ attr_Write.f (k + 20) x = some ([], 1)) ∨
    (attr_Right.f (k + 20) x = some true ∧ ∃ pb mb rb ob d eb v, attr_Write.f (k + 20) x = some (outp (L7 x pb mb rb ob d eb (decide ((x.Clusters.length : Int) > 0))) (decide ((x.Tunnels.length : Int) > 0)) 192 22 v, 0)) := by
  obtain ⟨ok, hok, hr⟩ := rightA_ok k x h1 h2 h3 h4 hk
  unfold attr_Write.f
  rw [hok, Option.bind_some]
  cases ok with
  | false => exact .inl ⟨rfl, rfl⟩
  | true =>
    right
    have R := hr rfl
    obtain ⟨d, q1, q2⟩ := wl0_ok k x.Clusters h3 R.cl x.Clusters.length (k + 20) 0 [] (by omega) (by omega) rfl
    obtain ⟨pb, q3⟩ := pb0_tot (k + 15) x.Path R.pn R.ps (by omega) x.Path.length (k + 20) 0 [] (by omega) (by omega) (by simp)
    obtain ⟨mb, q4, _⟩ := num_tot (k + 15) x.Med
    obtain ⟨rb, q5, _⟩ := num_tot (k + 15) x.Pref
    obtain ⟨ob, q6, _⟩ := abytes_ok k x.Originator
    have hen := R.en
    have htn := R.tn
    obtain ⟨eb, q7⟩ := cb_tot x.Exts (by omega) x.Exts.length (k + 20) 0 [] (by omega) (by omega) rfl
    have e1 : attr_pathBytes.f (k + 20) x.Path = some pb := by unfold attr_pathBytes.f; rw [show attr_pathBytes.l0 (k + 20) x.Path (k + 20) [] 0 = _ from q3]; rfl
    have e2 : community_Bytes.f (k + 20) x.Exts = some eb := by unfold community_Bytes.f; rw [show community_Bytes.l0 x.Exts (k + 20) [] 0 = _ from q7]; rfl
    have hd : decide ((d.length : Int) > 0) = decide ((x.Clusters.length : Int) > 0) := by rw [q2]; congr 1; apply propext; omega
    have h7 := L7_len x pb mb rb ob d eb (decide ((x.Clusters.length : Int) > 0))
    have main : ∃ v, Write.l1 (k + 20) x.Tunnels (k + 20) (L7 x pb mb rb ob d eb (decide ((x.Clusters.length : Int) > 0))) 0 = some (outp (L7 x pb mb rb ob d eb (decide ((x.Clusters.length : Int) > 0))) (decide ((x.Tunnels.length : Int) > 0)) 192 22 v) := by
      generalize L7 x pb mb rb ob d eb (decide ((x.Clusters.length : Int) > 0)) = L at h7
      match hT : x.Tunnels, htn with
      | [], _ => exact ⟨[], by rw [Write.l1, if_neg (by simp)]; rfl⟩
      | [t], _ =>
        obtain ⟨v, hv⟩ : ∃ v, pmsi_Bytes.f (k + 20) t = some v := ⟨_, pbytes_ok k t (by have := h5 t (by rw [hT]; simp); omega)⟩
        refine ⟨v.1, ?_⟩
        rw [Write.l1, if_pos (by simp), if_pos ⟨by omega, by simp⟩, show rd [t] (0 : Int) = t from rfl, hv, Option.bind_some, if_pos (by omega), show IntKind.i64.wrap ((0 : Int) + 1) = 1 from rfl, show k + 19 = (k + 18) + 1 from rfl, Write.l1, if_neg (by simp)]
        rfl
    obtain ⟨v, hv⟩ := main
    unfold L7 at hv ⊢
    refine ⟨rfl, pb, mb, rb, ob, d, eb, v, ?_⟩
    rw [show Write.l0 (k + 20) x.Clusters (k + 20) [] 0 = _ from q1, e1, show attr_num.f (k + 20) x.Med = _ from q4, show attr_num.f (k + 20) x.Pref = _ from q5, q6, e2]
    simp only [Bool.not_true, Bool.false_eq_true, if_false, Option.bind_some, hd]
    rw [show Write.l1 (k + 20) x.Tunnels (k + 20) _ 0 = _ from hv, Option.bind_some]
/-- kinds that rise are told to rise -/
theorem ord_l0 (L : List S_api_Raw × Int) (hl : L.1.length ≤ 100) : ∀ (m kk i : Nat) (last : Int), i + m = L.1.length → m < kk → ((last :: (L.1.drop i).map (·.Kind)).Pairwise (· < ·)) → vinerylaw09_AttrOrders.l0 L kk last (i : Int) = some (.inr ())
  | 0, kk + 1, i, last, h, _, _ => by rw [vinerylaw09_AttrOrders.l0, if_neg (by simp; omega)]
  | m + 1, kk + 1, i, last, h, hk, hp => by
    have hi : i < L.1.length := by omega
    have e : IntKind.i64.wrap ((i : Int) + 1) = ((i + 1 : Nat) : Int) := by rw [w64 _ (by omega)]; omega
    have er : rd L.1 (i : Int) = L.1[i] := by simp [rd, List.getD, hi]
    rw [List.drop_eq_getElem_cons hi, List.map_cons, List.pairwise_cons] at hp
    have hlt := hp.1 L.1[i].Kind (by simp)
    rw [vinerylaw09_AttrOrders.l0, if_pos (by simp; omega), if_pos ⟨by omega, by omega⟩, er, if_neg (by simp; omega), if_pos ⟨by omega, by omega⟩, e]
    exact ord_l0 L hl m kk (i + 1) _ (by omega) (by omega) hp.2
def kindsB (b1 b2 b3 b4 b5 b6 : Bool) : List Int := [1, 2] ++ (if b1 then [4] else []) ++ (if b2 then [5] else []) ++ (if b3 then [9] else []) ++ (if b4 then [10] else []) ++ (if b5 then [16] else []) ++ (if b6 then [22] else [])
theorem kinds_rise : ∀ b1 b2 b3 b4 b5 b6 : Bool, ((0 : Int) :: kindsB b1 b2 b3 b4 b5 b6).Pairwise (· < ·) := by decide
theorem outp_kinds (l : List S_api_Raw) (is : Bool) (f k : Int) (v : List Int) : (outp l is f k v).map (·.Kind) = l.map (·.Kind) ++ (if is then [k] else []) := by
  unfold outp; cases is <;> simp
def Bs (x : S_api_Attrs) : List Bool := [decide (x.Med ≥ (0 : Int)), decide (x.Pref ≥ (0 : Int)), decide (x.Originator.Size > (0 : Int)), decide ((x.Clusters.length : Int) > (0 : Int)), decide ((x.Exts.length : Int) > (0 : Int)), decide ((x.Tunnels.length : Int) > (0 : Int))]
theorem cnt_l1 (x : S_api_Attrs) : ∀ (m kk i c : Nat), i + m = (Bs x).length → m < kk → c ≤ i + 2 → vinerylaw09_AttrOrders.l1 x kk (c : Int) (i : Int) = some ((c + ((Bs x).drop i).countP id : Nat) : Int)
  | 0, kk + 1, i, c, h, _, _ => by
    rw [vinerylaw09_AttrOrders.l1]
    change (if decide ((i : Int) < ((Bs x).length : Int)) = true then _ else some (c : Int)) = _
    rw [if_neg (by simp; omega), List.drop_of_length_le (by omega)]
    rfl
  | m + 1, kk + 1, i, c, h, hk, hc => by
    have h6 : (Bs x).length = 6 := rfl
    have hi : i < (Bs x).length := by omega
    have e : IntKind.i64.wrap ((i : Int) + 1) = ((i + 1 : Nat) : Int) := by rw [w64 _ (by omega)]; omega
    have e2 : IntKind.i64.wrap ((c : Int) + 1) = ((c + 1 : Nat) : Int) := by rw [w64 _ (by omega)]; omega
    have er : rd (Bs x) (i : Int) = (Bs x)[i] := by simp [rd, List.getD, hi]
    rw [vinerylaw09_AttrOrders.l1]
    change (if decide ((i : Int) < ((Bs x).length : Int)) = true then (if 0 ≤ (i : Int) ∧ (i : Int) < ((Bs x).length : Int) then (if rd (Bs x) (i : Int) = true then vinerylaw09_AttrOrders.l1 x kk (IntKind.i64.wrap ((c : Int) + 1)) (IntKind.i64.wrap ((i : Int) + 1)) else vinerylaw09_AttrOrders.l1 x kk (c : Int) (IntKind.i64.wrap ((i : Int) + 1))) else none) else some (c : Int)) = _
    rw [if_pos (by simp; omega), if_pos ⟨by omega, by omega⟩, er, e, e2, List.drop_eq_getElem_cons hi, List.countP_cons]
    by_cases hp : (Bs x)[i] = true
    · by_cases hc2 : c + 1 ≤ i + 1 + 2
      · rw [if_pos hp, cnt_l1 x m kk (i + 1) (c + 1) (by omega) (by omega) hc2, if_pos (by simpa using hp)]
        congr 2; omega
      · exact absurd hc2 (by omega)
    · rw [if_neg hp, cnt_l1 x m kk (i + 1) c (by omega) (by omega) (by omega), if_neg (by simpa using hp)]
      rfl
theorem okl {α : Type} {c : Nat} {P : α → Prop} {l : List α} (h : okL (c + 1) P l) : l.length ≤ 140737488351232 := by
  have := h.1
  unfold reachBytes at this
  have : l.length * 1 ≤ l.length * (c + 1) := Nat.mul_le_mul_left _ (Nat.succ_le_succ (Nat.zero_le c))
  omega
theorem AttrOrders.law (x : S_api_Attrs) (hx : okS_api_Attrs x) : ∃ k, vinerylaw09_AttrOrders.f k x = some true := by
  have l1 : x.Path.length ≤ 140737488351232 := okl hx.2.1
  have l2 : x.Tunnels.length ≤ 140737488351232 := okl hx.2.2.2.2.2.2.2
  refine ⟨(x.Path.length + x.Tunnels.length + 3000) + 20, ?_⟩
  unfold vinerylaw09_AttrOrders.f
  obtain ⟨b, hb, hb2⟩ := few_ok ((x.Path.length + x.Tunnels.length + 3000) + 20) x l1 l2 ⟨by omega, by omega⟩
  rw [small09, Option.bind_some, hb, Option.bind_some]
  cases b with
  | false => rfl
  | true =>
    obtain ⟨c1, c2, c3, c4, c5, c6⟩ := hb2 rfl
    rw [if_neg (by simp)]
    rcases write_ok (x.Path.length + x.Tunnels.length + 3000) x (by omega) (fun s hs => by have := c2 s hs; omega) (by omega) (by omega) c6 (by omega) with ⟨r, w⟩ | ⟨r, pb, mb, rb, ob, d, eb, v, w⟩
    · rw [w, r]; rfl
    · rw [w, r, Option.bind_some]
      generalize hL : outp (L7 x pb mb rb ob d eb (decide ((x.Clusters.length : Int) > 0))) (decide ((x.Tunnels.length : Int) > 0)) 192 22 v = L
      have hk : L.map (·.Kind) = kindsB (decide (x.Med ≥ (0 : Int))) (decide (x.Pref ≥ (0 : Int))) (decide (x.Originator.Size > (0 : Int))) (decide ((x.Clusters.length : Int) > (0 : Int))) (decide ((x.Exts.length : Int) > (0 : Int))) (decide ((x.Tunnels.length : Int) > (0 : Int))) := by
        rw [← hL]; unfold L7 kindsB; simp only [outp_kinds]; rfl
      have hlen : (L.length : Int) = ((2 + (Bs x).countP id : Nat) : Int) := by
        have := congrArg List.length hk
        rw [List.length_map] at this
        rw [this]
        unfold Bs
        generalize decide (x.Med ≥ (0 : Int)) = b1
        generalize decide (x.Pref ≥ (0 : Int)) = b2
        generalize decide (x.Originator.Size > (0 : Int)) = b3
        generalize decide ((x.Clusters.length : Int) > (0 : Int)) = b4
        generalize decide ((x.Exts.length : Int) > (0 : Int)) = b5
        generalize decide ((x.Tunnels.length : Int) > (0 : Int)) = b6
        revert b1 b2 b3 b4 b5 b6
        decide
      have h100 : L.length ≤ 100 := by
        have : (Bs x).countP id ≤ (Bs x).length := List.countP_le_length
        have h6 : (Bs x).length = 6 := rfl
        omega
      have h0 := ord_l0 (L, 0) h100 L.length ((x.Path.length + x.Tunnels.length + 3000) + 20) 0 0 (by simp) (by omega) (by rw [List.drop_zero]; show ((0 : Int) :: L.map (·.Kind)).Pairwise (· < ·); rw [hk]; exact kinds_rise _ _ _ _ _ _)
      have h1 := cnt_l1 x 6 ((x.Path.length + x.Tunnels.length + 3000) + 20) 0 2 rfl (by omega) (by omega)
      rw [List.drop_zero] at h1
      have k0 : (rd L 0).Kind = 1 ∧ (rd L 1).Kind = 2 := by
        match L, hk with
        | a :: b :: t, hk =>
          have e := hk
          unfold kindsB at e
          simp only [List.map_cons, List.cons_append, List.nil_append] at e
          exact ⟨(List.cons.inj e).1, (List.cons.inj (List.cons.inj e).2).1⟩
        | [a], hk => unfold kindsB at hk; simp at hk
        | [], hk => unfold kindsB at hk; simp at hk
      have h2 : 2 ≤ L.length := by omega
      rw [if_neg (by simp), show vinerylaw09_AttrOrders.l0 (L, 0) _ 0 0 = _ from h0, Option.bind_some]
      rw [show vinerylaw09_AttrOrders.l1 x _ 2 0 = _ from h1, Option.bind_some]
      simp only [if_true, hlen, BEq.rfl, k0.1, k0.2]
      rw [if_pos ⟨by omega, by omega⟩, if_pos ⟨by omega, by omega⟩]
      rfl
end Go.E
