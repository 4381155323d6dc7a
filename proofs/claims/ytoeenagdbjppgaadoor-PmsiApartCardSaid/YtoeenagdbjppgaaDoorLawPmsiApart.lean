/- The plain law: what the walk computes is true, whatever the input. -/
import Derived.Test.YtoeenagdbjppgaaDoorGenPmsiApart
import Derived.Test.YtoeenagdbjppgaaDoorEngR
set_option linter.unusedVariables false
set_option linter.unusedSimpArgs false
namespace Go.E
theorem bstr_toList (l : List UInt8) : (bstr l).toList = l := by rw [ByteArray.toList_eq]; simp [bstr]
theorem clone_ok (l : List Int) (h : l.length ≤ 140737488355328) : bytes_Clone.f l = some l := if_pos h
theorem next_bad (r : S_cursor_rest) (n : Int) (h : r.bad = true ∨ n < 0 ∨ n > r.left.length) : cursor_rest_next.f r n = some ([], ⟨r.left, true⟩) := by
  unfold cursor_rest_next.f
  by_cases hb : r.bad = true
  · simp [hb]
  · by_cases h1 : n < 0
    · simp [hb, h1]
    · have h2 : (r.left.length : Int) < n := by rcases h with h | h | h <;> first | exact absurd h hb | exact absurd h h1 | exact h
      simp [hb, h1, h2]
theorem next_ok (r : S_cursor_rest) (n : Int) (hb : r.bad = false) (h0 : 0 ≤ n) (h1 : n ≤ r.left.length) : cursor_rest_next.f r n = some (r.left.take n.toNat, ⟨r.left.drop n.toNat, false⟩) := by
  unfold cursor_rest_next.f
  have e0 : ¬ n < 0 := by omega
  have e1 : ¬ (r.left.length : Int) < n := by omega
  simp [hb, e0, e1, h0, h1]
theorem take_bad (r : S_cursor_Reader) (n : Int) (h : r.rest.bad = true ∨ n < 0 ∨ n > r.rest.left.length) : cursor_Reader_Take.f r n = some ([], ⟨⟨r.rest.left, true⟩⟩) := by
  unfold cursor_Reader_Take.f
  rw [next_bad _ _ h, Option.bind_some, clone_ok _ (by simp)]
  rfl
theorem take_ok (r : S_cursor_Reader) (n : Int) (hl : r.rest.left.length ≤ 140737488355328) (hb : r.rest.bad = false) (h0 : 0 ≤ n) (h1 : n ≤ r.rest.left.length) :
    cursor_Reader_Take.f r n = some (r.rest.left.take n.toNat, ⟨⟨r.rest.left.drop n.toNat, false⟩⟩) := by
  unfold cursor_Reader_Take.f
  rw [next_ok _ _ hb h0 h1, Option.bind_some, clone_ok _ (by simp; omega)]
  rfl
/-- what a number's bytes come to -/
def numL : List Int → Int → Int
  | [], x => x
  | c :: l, x => numL l (IntKind.i64.wrap (BitVec.ofInt IntKind.i64.bits (IntKind.i64.wrap (x * 2 ^ (min (8 : Int).toNat IntKind.i64.bits))) ||| BitVec.ofInt IntKind.i64.bits (IntKind.i64.wrap c)).toNat)
theorem num_l0 (t : List Int × S_cursor_rest) (hl : t.1.length ≤ 140737488355328) : ∀ (m k i : Nat) (x : Int), m + i = t.1.length → m < k → cursor_Reader_Num.l0 t k x (i : Int) = some (numL (t.1.drop i) x)
  | 0, k + 1, i, x, h, _ => by
    unfold cursor_Reader_Num.l0
    rw [if_neg (by simp; omega), List.drop_of_length_le (by omega)]
    rfl
  | m + 1, k + 1, i, x, h, hk => by
    unfold cursor_Reader_Num.l0
    have hi : i < t.1.length := by omega
    have e : IntKind.i64.wrap ((i : Int) + 1) = ((i + 1 : Nat) : Int) := by rw [IntKind.wrap_i64]; omega
    rw [if_pos (by simpa using hi), if_pos (by omega), e, num_l0 t hl m k (i + 1) _ (by omega) (by omega), List.drop_eq_getElem_cons hi]
    have er : rd t.1 (i : Int) = t.1[i] := by simp [rd, List.getD, hi]
    rw [er]
    rfl
theorem num_bad (k : Nat) (r : S_cursor_Reader) (n : Int) (h : r.rest.bad = true ∨ n < 1 ∨ n > 4 ∨ n > r.rest.left.length) : cursor_Reader_Num.f (k + 1) r n = some (0, ⟨⟨r.rest.left, true⟩⟩) := by
  unfold cursor_Reader_Num.f
  have hl : cursor_Reader_Num.l0 ([], ⟨r.rest.left, true⟩) (k + 1) 0 0 = some 0 := by unfold cursor_Reader_Num.l0; simp
  by_cases hs : n < 1 ∨ n > 4
  · have : (if decide (n < 1) = true then true else decide (n > 4)) = true := by rcases hs with h | h <;> simp [h]
    rw [if_pos this, Option.bind_some, next_bad _ _ (by omega), Option.bind_some, hl]
    rfl
  · have h1 : ¬ n < 1 := fun e => hs (.inl e)
    have h2 : ¬ 4 < n := fun e => hs (.inr e)
    have : ¬ (if decide (n < 1) = true then true else decide (n > 4)) = true := by simp [h1, h2]
    rw [if_neg this, Option.bind_some, next_bad _ _ (by rcases h with h | h | h | h <;> first | exact .inl h | exact absurd h h1 | exact absurd h h2 | exact .inr (.inr h)), Option.bind_some, hl]
    rfl
theorem num_ok (k : Nat) (r : S_cursor_Reader) (n : Int) (hb : r.rest.bad = false) (h1 : 1 ≤ n) (h4 : n ≤ 4) (hn : n ≤ r.rest.left.length) :
    cursor_Reader_Num.f (k + 5) r n = some (numL (r.rest.left.take n.toNat) 0, ⟨⟨r.rest.left.drop n.toNat, false⟩⟩) := by
  unfold cursor_Reader_Num.f
  have e1 : ¬ n < 1 := by omega
  have e4 : ¬ 4 < n := by omega
  rw [if_neg (by simp [e1, e4]), Option.bind_some, next_ok _ _ hb (by omega) hn, Option.bind_some]
  have hl : (r.rest.left.take n.toNat).length ≤ 4 := by simp; omega
  have := num_l0 (r.rest.left.take n.toNat, ⟨r.rest.left.drop n.toNat, false⟩) (by show (r.rest.left.take n.toNat).length ≤ _; omega) (r.rest.left.take n.toNat).length (k + 5) 0 0 rfl (by omega)
  simp only [Int.ofNat_zero, Int.natCast_zero, List.drop_zero] at this
  rw [this]
  rfl
theorem left_f (r : S_cursor_rest) : cursor_rest_Left.f r = some (if r.bad = true then 0 else (r.left.length : Int)) := by
  unfold cursor_rest_Left.f
  split <;> rfl
theorem fdiv_pos (n : Int) (d : Nat) (hn : 0 ≤ n) : Int.fdiv n (2 ^ d) = n / (2 ^ d) := Int.fdiv_eq_ediv_of_nonneg _ (Int.le_of_lt (Int.pow_pos (by decide)))
theorem put_step (n : Int) (hn : 0 ≤ n) (k : Nat) (x : List Int) (i : Nat) (hi : i ≤ 32) (hx : x.length + 1 ≤ 140737488355328) :
    cursor_Put.l0 n (k + 1) x (i : Int) = cursor_Put.l0 n k (x ++ [(n / 2 ^ i) % 256]) ((i : Int) - 8) := by
  rw [cursor_Put.l0]
  have h0 : (0 : Int) ≤ (i : Int) := by omega
  have e : IntKind.i64.wrap ((i : Int) - 8) = (i : Int) - 8 := by rw [IntKind.wrap_i64]; omega
  have hm : min ((i : Int).toNat) IntKind.i64.bits = i := by
    show min i 64 = i
    omega
  rw [if_pos (by simp), if_pos h0, if_pos (by simp; omega), e, hm, fdiv_pos _ _ hn, IntKind.wrap_u8]
theorem put_end (n : Int) (k : Nat) (x : List Int) (i : Int) (hi : i < 0) : cursor_Put.l0 n (k + 1) x i = some x := by
  rw [cursor_Put.l0, if_neg (by simp; omega)]
def putL (n : Int) : Nat → List Int
  | 1 => [n % 256]
  | 2 => [n / 256 % 256, n % 256]
  | 3 => [n / 65536 % 256, n / 256 % 256, n % 256]
  | 4 => [n / 16777216 % 256, n / 65536 % 256, n / 256 % 256, n % 256]
  | _ => []
theorem put_bad1 (k : Nat) (b : List Int) (n s : Int) (h : s < 1 ∨ s > 4) : cursor_Put.f k b n s = some ([], 1) := by
  unfold cursor_Put.f
  have : (if decide (s < 1) = true then true else decide (s > 4)) = true := by simp; omega
  rw [if_pos this]
theorem put_bad5 (k : Nat) (b : List Int) (n s : Int) (h1 : 1 ≤ s) (h4 : s ≤ 4) (h : n < 0 ∨ n ≥ 2 ^ (8 * s.toNat)) : cursor_Put.f k b n s = some ([], 5) := by
  unfold cursor_Put.f
  have : ¬ (if decide (s < 1) = true then true else decide (s > 4)) = true := by simp; omega
  rw [if_neg this]
  have e : IntKind.i64.wrap ((8 : Int) * s) = 8 * s := by rw [IntKind.wrap_i64]; omega
  rw [e]
  by_cases hn : n < 0
  · simp [hn]
  · have hge : n ≥ 2 ^ (8 * s.toNat) := h.resolve_left hn
    have hm : min ((8 * s).toNat) IntKind.i64.bits = 8 * s.toNat := by show min _ 64 = _; omega
    have hne : (Int.fdiv n (2 ^ (8 * s.toNat)) != 0) = true := by
      rw [fdiv_pos _ _ (by omega)]
      have hp : (0 : Int) < 2 ^ (8 * s.toNat) := Int.pow_pos (by decide)
      have : 1 ≤ n / 2 ^ (8 * s.toNat) := (Int.le_ediv_iff_mul_le hp).2 (by omega)
      simp; omega
    rw [if_neg (by simpa using hn), if_pos (by omega), hm, hne]
    rfl
theorem put_ok (k : Nat) (b : List Int) (n : Int) (s : Nat) (hb : b.length ≤ 140737488351232) (h1 : 1 ≤ s) (h4 : s ≤ 4) (hn : 0 ≤ n) (hlt : n < 2 ^ (8 * s)) : cursor_Put.f (k + 5) b n (s : Int) = some (b ++ putL n s, 0) := by
  unfold cursor_Put.f
  have : ¬ (if decide ((s : Int) < 1) = true then true else decide ((s : Int) > 4)) = true := by simp; omega
  rw [if_neg this]
  have e : IntKind.i64.wrap ((8 : Int) * (s : Int)) = 8 * (s : Int) := by rw [IntKind.wrap_i64]; omega
  have e2 : IntKind.i64.wrap ((8 : Int) * IntKind.i64.wrap ((s : Int) - 1)) = 8 * ((s : Int) - 1) := by rw [IntKind.wrap_i64, IntKind.wrap_i64]; omega
  rw [e, e2]
  have hm : min ((8 * (s : Int)).toNat) IntKind.i64.bits = 8 * s := by show min _ 64 = _; omega
  have hz : (Int.fdiv n (2 ^ (8 * s)) != 0) = false := by
    rw [fdiv_pos _ _ hn, Int.ediv_eq_zero_of_lt hn hlt]; rfl
  rw [if_neg (by simpa using hn), if_pos (by omega), hm, hz, Option.bind_some, if_neg (by simp), clone_ok _ (by omega), Option.bind_some]
  rcases (show s = 1 ∨ s = 2 ∨ s = 3 ∨ s = 4 by omega) with rfl | rfl | rfl | rfl
  · have := put_step n hn (k + 4) b 0 (by omega) (by omega)
    rw [show (8 : Int) * ((1 : Nat) - 1) = ((0 : Nat) : Int) from rfl, this, put_end _ _ _ _ (by omega)]
    simp [putL]
  · have s1 := put_step n hn (k + 4) b 8 (by omega) (by omega)
    have s2 := put_step n hn (k + 3) (b ++ [n / 2 ^ 8 % 256]) 0 (by omega) (by simp; omega)
    rw [show (8 : Int) * ((2 : Nat) - 1) = ((8 : Nat) : Int) from rfl, s1, show ((8 : Nat) : Int) - 8 = ((0 : Nat) : Int) from rfl, s2, put_end _ _ _ _ (by omega)]
    simp [putL]
  · have s1 := put_step n hn (k + 4) b 16 (by omega) (by omega)
    have s2 := put_step n hn (k + 3) (b ++ [n / 2 ^ 16 % 256]) 8 (by omega) (by simp; omega)
    have s3 := put_step n hn (k + 2) (b ++ [n / 2 ^ 16 % 256] ++ [n / 2 ^ 8 % 256]) 0 (by omega) (by simp; omega)
    rw [show (8 : Int) * ((3 : Nat) - 1) = ((16 : Nat) : Int) from rfl, s1, show ((16 : Nat) : Int) - 8 = ((8 : Nat) : Int) from rfl, s2, show ((8 : Nat) : Int) - 8 = ((0 : Nat) : Int) from rfl, s3, put_end _ _ _ _ (by omega)]
    simp [putL]
  · have s1 := put_step n hn (k + 4) b 24 (by omega) (by omega)
    have s2 := put_step n hn (k + 3) (b ++ [n / 2 ^ 24 % 256]) 16 (by omega) (by simp; omega)
    have s3 := put_step n hn (k + 2) (b ++ [n / 2 ^ 24 % 256] ++ [n / 2 ^ 16 % 256]) 8 (by omega) (by simp; omega)
    have s4 := put_step n hn (k + 1) (b ++ [n / 2 ^ 24 % 256] ++ [n / 2 ^ 16 % 256] ++ [n / 2 ^ 8 % 256]) 0 (by omega) (by simp; omega)
    rw [show (8 : Int) * ((4 : Nat) - 1) = ((24 : Nat) : Int) from rfl, s1, show ((24 : Nat) : Int) - 8 = ((16 : Nat) : Int) from rfl, s2, show ((16 : Nat) : Int) - 8 = ((8 : Nat) : Int) from rfl, s3, show ((8 : Nat) : Int) - 8 = ((0 : Nat) : Int) from rfl, s4, put_end _ _ _ _ (by omega)]
    simp [putL]
theorem or_step (x c : Int) (hx : 0 ≤ x) (hx2 : x < 72057594037927936) (hc : 0 ≤ c) (hc2 : c ≤ 255) :
    IntKind.i64.wrap (BitVec.ofInt IntKind.i64.bits (IntKind.i64.wrap (x * 2 ^ (min (8 : Int).toNat IntKind.i64.bits))) ||| BitVec.ofInt IntKind.i64.bits (IntKind.i64.wrap c)).toNat = IntKind.i64.wrap (x * 256 + c) := by
  obtain ⟨a, rfl⟩ := Int.eq_ofNat_of_zero_le hx
  obtain ⟨d, rfl⟩ := Int.eq_ofNat_of_zero_le hc
  congr 1
  have e1 : (BitVec.ofInt IntKind.i64.bits (IntKind.i64.wrap ((a : Int) * 2 ^ (min (8 : Int).toNat IntKind.i64.bits)))).toNat = 2 ^ 8 * a := by
    have : ((a : Int) * 2 ^ (min (8 : Int).toNat IntKind.i64.bits)) = (a : Int) * 256 := rfl
    rw [this, IntKind.wrap_i64, BitVec.toNat_ofInt]
    show (_ % ((2 ^ 64 : Nat) : Int)).toNat = _
    omega
  have e2 : (BitVec.ofInt IntKind.i64.bits (IntKind.i64.wrap (d : Int))).toNat = d := by
    rw [IntKind.wrap_i64, BitVec.toNat_ofInt]
    show (_ % ((2 ^ 64 : Nat) : Int)).toNat = _
    omega
  rw [BitVec.toNat_or, e1, e2, ← Nat.two_pow_add_eq_or_of_lt (by omega : d < 2 ^ 8)]
  omega
theorem numL_cons (c : Int) (l : List Int) (x : Int) (hx : 0 ≤ x) (hx2 : x < 4294967296) (hc : 0 ≤ c) (hc2 : c ≤ 255) : numL (c :: l) x = numL l (x * 256 + c) := by
  rw [numL, or_step x c hx (by omega) hc hc2]
  congr 1
  rw [IntKind.wrap_i64]; omega
theorem num_put (n : Int) (s : Nat) (h1 : 1 ≤ s) (h4 : s ≤ 4) (hn : 0 ≤ n) (hlt : n < 2 ^ (8 * s)) : numL (putL n s) 0 = n := by
  rcases (show s = 1 ∨ s = 2 ∨ s = 3 ∨ s = 4 by omega) with rfl | rfl | rfl | rfl <;> simp only [putL]
  · have : n < 256 := hlt
    rw [numL_cons _ _ _ (by omega) (by omega) (by omega) (by omega), numL]; omega
  · have : n < 65536 := hlt
    rw [numL_cons _ _ _ (by omega) (by omega) (by omega) (by omega), numL_cons _ _ _ (by omega) (by omega) (by omega) (by omega), numL]; omega
  · have : n < 16777216 := hlt
    rw [numL_cons _ _ _ (by omega) (by omega) (by omega) (by omega), numL_cons _ _ _ (by omega) (by omega) (by omega) (by omega), numL_cons _ _ _ (by omega) (by omega) (by omega) (by omega), numL]; omega
  · have : n < 4294967296 := hlt
    rw [numL_cons _ _ _ (by omega) (by omega) (by omega) (by omega), numL_cons _ _ _ (by omega) (by omega) (by omega) (by omega), numL_cons _ _ _ (by omega) (by omega) (by omega) (by omega), numL_cons _ _ _ (by omega) (by omega) (by omega) (by omega), numL]; omega
theorem putL_length (n : Int) (s : Nat) (h1 : 1 ≤ s) (h4 : s ≤ 4) : (putL n s).length = s := by
  rcases (show s = 1 ∨ s = 2 ∨ s = 3 ∨ s = 4 by omega) with rfl | rfl | rfl | rfl <;> rfl
theorem put_num (l : List Int) (h1 : 1 ≤ l.length) (h4 : l.length ≤ 4) (hl : ∀ y ∈ l, 0 ≤ y ∧ y ≤ 255) : 0 ≤ numL l 0 ∧ numL l 0 < 2 ^ (8 * l.length) ∧ putL (numL l 0) l.length = l := by
  match l, h1, h4, hl with
  | [a], _, _, hl =>
    have ha := hl a (by simp)
    rw [numL_cons _ _ _ (by omega) (by omega) ha.1 ha.2, numL]
    simp only [putL, List.length_cons, List.length_nil]
    exact ⟨by omega, by omega, by congr 1; omega⟩
  | [a, b], _, _, hl =>
    have ha := hl a (by simp); have hb := hl b (by simp)
    rw [numL_cons _ _ _ (by omega) (by omega) ha.1 ha.2, numL_cons _ _ _ (by omega) (by omega) hb.1 hb.2, numL]
    simp only [putL, List.length_cons, List.length_nil]
    exact ⟨by omega, by omega, by congr 1; omega; congr 1; omega⟩
  | [a, b, c], _, _, hl =>
    have ha := hl a (by simp); have hb := hl b (by simp); have hc := hl c (by simp)
    rw [numL_cons _ _ _ (by omega) (by omega) ha.1 ha.2, numL_cons _ _ _ (by omega) (by omega) hb.1 hb.2, numL_cons _ _ _ (by omega) (by omega) hc.1 hc.2, numL]
    simp only [putL, List.length_cons, List.length_nil]
    exact ⟨by omega, by omega, by congr 1; omega; congr 1; omega; congr 1; omega⟩
  | [a, b, c, d], _, _, hl =>
    have ha := hl a (by simp); have hb := hl b (by simp); have hc := hl c (by simp); have hd := hl d (by simp)
    rw [numL_cons _ _ _ (by omega) (by omega) ha.1 ha.2, numL_cons _ _ _ (by omega) (by omega) hb.1 hb.2, numL_cons _ _ _ (by omega) (by omega) hc.1 hc.2, numL_cons _ _ _ (by omega) (by omega) hd.1 hd.2, numL]
    simp only [putL, List.length_cons, List.length_nil]
    exact ⟨by omega, by omega, by congr 1; omega; congr 1; omega; congr 1; omega; congr 1; omega⟩
theorem w64 (n : Int) (h : -9223372036854775808 ≤ n ∧ n ≤ 9223372036854775807) : IntKind.i64.wrap n = n := by rw [IntKind.wrap_i64]; omega
def isB (l : List Int) : Prop := ∀ y ∈ l, 0 ≤ y ∧ y ≤ 255
theorem okL_isB {l : List Int} (h : okL 1 (okI .u8) l) : isB l := fun y hy => by
  have := h.2 y hy
  have e1 : IntKind.u8.min = 0 := rfl
  have e2 : IntKind.u8.max = 255 := rfl
  unfold okI at this
  omega
theorem okA_isB {l : List Int} {n : Nat} (h : okA .u8 n l) : isB l := fun y hy => by
  have := h.2 y hy
  have e1 : IntKind.u8.min = 0 := rfl
  have e2 : IntKind.u8.max = 255 := rfl
  unfold okI at this
  omega
theorem okL_len {l : List Int} {ok : Int → Prop} (h : okL 1 ok l) : l.length ≤ 140737488351232 := by have := h.1; unfold reachBytes at this; omega
theorem isB.app {a b : List Int} (h : isB a) (h' : isB b) : isB (a ++ b) := fun y hy => (List.mem_append.1 hy).elim (h y) (h' y)
theorem b2s_inj : ∀ {a b : List Int}, isB a → isB b → b2s a = b2s b → a = b
  | [], [], _, _, _ => rfl
  | [], _ :: _, _, _, h => by simp [b2s] at h
  | _ :: _, [], _, _, h => by simp [b2s] at h
  | x :: a, y :: b, ha, hb, h => by
    simp only [b2s, List.map_cons, List.cons.injEq] at h
    have h1 := ha x (by simp); have h2 := hb y (by simp)
    have e := congrArg UInt8.toNat h.1
    rw [UInt8.toNat_ofNat', UInt8.toNat_ofNat'] at e
    rw [b2s_inj (fun z hz => ha z (by simp [hz])) (fun z hz => hb z (by simp [hz])) h.2, show x = y by omega]
theorem b2s_beq {a b : List Int} (ha : isB a) (hb : isB b) : (b2s a == b2s b) = (a == b) := by
  rw [Bool.eq_iff_iff]
  simp only [beq_iff_eq]
  exact ⟨b2s_inj ha hb, fun e => by rw [e]⟩
theorem rd_at (l : List Int) (i : Nat) (hi : i < l.length) : rd l (i : Int) = l[i] := by simp [rd, List.getD, hi]
theorem ar_at (l : List Int) (i : Nat) (hi : i < l.length) : ar l i = l[i] := by simp [ar, List.getD, hi]
theorem arL_self (l : List Int) : arL l.length l = l := by
  apply List.ext_getElem
  · simp [arL]
  · intro i h1 h2
    simp [arL, ar_at l i h2]
/-! trimming zeros -/
theorem tr_nil (k : Nat) : bytes_trimRightByte.l0 0 (k + 1) [] = some [] := by unfold bytes_trimRightByte.l0; simp
theorem tr_snoc (k : Nat) (y : List Int) (c : Int) (h : y.length ≤ 100) : bytes_trimRightByte.l0 0 (k + 1) (y ++ [c]) = if c = 0 then bytes_trimRightByte.l0 0 k y else some (y ++ [c]) := by
  rw [bytes_trimRightByte.l0]
  have hl : (y ++ [c]).length = y.length + 1 := by simp
  have e : IntKind.i64.wrap (((y ++ [c]).length : Int) - 1) = (y.length : Int) := by rw [hl, IntKind.wrap_i64]; omega
  have er : rd (y ++ [c]) (y.length : Int) = c := by rw [rd_at _ _ (by simp)]; simp
  rw [e, er, if_pos (by simp <;> omega), if_pos (by rw [hl]; omega), Option.bind_some]
  by_cases hc : c = 0
  · rw [if_pos (by simpa using hc), if_pos (by rw [hl]; simp <;> omega), if_pos hc]
    simp
  · rw [if_neg (by simpa using hc), if_neg hc]
theorem tr_ok : ∀ (n k : Nat) (x : List Int), x.length = n → n < k → n ≤ 100 → ∃ r, bytes_trimRightByte.l0 0 k x = some r ∧ r.length ≤ x.length ∧ r.all (· == 0) = x.all (· == 0)
  | 0, k, x, h, hk, _ => by
    obtain ⟨k, rfl⟩ : ∃ k', k = k' + 1 := ⟨k - 1, by omega⟩
    obtain rfl := List.eq_nil_of_length_eq_zero h
    exact ⟨[], tr_nil k, Nat.le_refl _, rfl⟩
  | n + 1, k, x, h, hk, hn => by
    obtain ⟨k, rfl⟩ : ∃ k', k = k' + 1 := ⟨k - 1, by omega⟩
    have hne : x ≠ [] := by intro e; subst e; simp at h
    have hx : x = x.dropLast ++ [x.getLast hne] := (List.dropLast_concat_getLast hne).symm
    have hd : x.dropLast.length = n := by simp [h]
    generalize x.dropLast = y at hx hd
    generalize x.getLast hne = c at hx
    subst hx
    rw [tr_snoc k y c (by omega)]
    by_cases hc : c = 0
    · obtain ⟨r, h1, h2, h3⟩ := tr_ok n k y hd (by omega) (by omega)
      exact ⟨r, by rw [if_pos hc]; exact h1, by simp; omega, by rw [h3]; simp [hc]⟩
    · exact ⟨_, if_neg hc, Nat.le_refl _, rfl⟩
theorem tl_nil (k : Nat) : bytes_trimLeftByte.l0 0 (k + 1) [] = some [] := by unfold bytes_trimLeftByte.l0; simp
theorem tl_cons (k : Nat) (y : List Int) (c : Int) : bytes_trimLeftByte.l0 0 (k + 1) (c :: y) = if c = 0 then bytes_trimLeftByte.l0 0 k y else some (c :: y) := by
  rw [bytes_trimLeftByte.l0]
  have er : rd (c :: y) 0 = c := rfl
  rw [er, if_pos (by simp <;> omega), if_pos (by simp <;> omega), Option.bind_some]
  by_cases hc : c = 0
  · rw [if_pos (by simpa using hc), if_pos (by simp <;> omega), if_pos hc]
    simp
  · rw [if_neg (by simpa using hc), if_neg hc]
theorem tl_ok : ∀ (x : List Int) (k : Nat), x.length < k → ∃ r, bytes_trimLeftByte.l0 0 k x = some r ∧ (((r.length : Int) == 0) = x.all (· == 0))
  | [], k, hk => by
    obtain ⟨k, rfl⟩ : ∃ k', k = k' + 1 := ⟨k - 1, by omega⟩
    exact ⟨[], tl_nil k, rfl⟩
  | c :: y, k, hk => by
    obtain ⟨k, rfl⟩ : ∃ k', k = k' + 1 := ⟨k - 1, by omega⟩
    rw [tl_cons]
    by_cases hc : c = 0
    · obtain ⟨r, h1, h2⟩ := tl_ok y k (by simp at hk; omega)
      exact ⟨r, by rw [if_pos hc]; exact h1, by rw [h2]; simp [hc]⟩
    · refine ⟨_, if_neg hc, ?_⟩
      have : (c == 0) = false := by simpa using hc
      simp only [List.all_cons, this, Bool.false_and]
      simp
      omega
theorem trim_ok (k : Nat) (x : List Int) (hx : x.length ≤ 16) : ∃ r, bytes_Trim.f (k + 20) x [0] = some r ∧ (((r.length : Int) == 0) = x.all (· == 0)) := by
  by_cases h0 : x.length = 0
  · obtain rfl := List.eq_nil_of_length_eq_zero h0
    exact ⟨[], rfl, rfl⟩
  · obtain ⟨r, h1, h2, h3⟩ := tr_ok x.length (k + 20) x rfl (by omega) (by omega)
    obtain ⟨r', h4, h5⟩ := tl_ok r (k + 20) (by omega)
    have e : bytes_Trim.f (k + 20) x [0] = (bytes_trimRightByte.f (k + 20) x 0).bind fun t21 => (bytes_trimLeftByte.f (k + 20) t21 0).bind fun t24 => some t24 := by
      unfold bytes_Trim.f
      have hs : (((bstr ([0] : List UInt8)).size : Int) == (1 : Int)) = true := rfl
      have ez : ((([0] : List UInt8).getD (Int.toNat (0 : Int)) 0).toNat : Int) = 0 := rfl
      rw [if_neg (by simpa using h0), if_neg (by rw [bstr_toList, bstr_toList]; decide), if_pos hs, ez, if_pos (by decide), Option.bind_some, if_pos (by decide), if_pos (by decide), if_pos (by decide)]
    rw [e]
    unfold bytes_trimRightByte.f bytes_trimLeftByte.f
    rw [h1, Option.bind_some, Option.bind_some, h4, Option.bind_some]
    by_cases hr : r'.length = 0
    · obtain rfl := List.eq_nil_of_length_eq_zero hr
      exact ⟨[], rfl, by rw [← h3, ← h5]⟩
    · rw [if_neg (by simpa using hr)]
      exact ⟨r', rfl, by rw [h5, h3]⟩
/-! addresses -/
def isSz (n : Int) : Bool := n == 0 || n == 4 || n == 16
def rightB (a : S_api_Addr) : Bool := isSz a.Size && ((arL 16 a.B).drop a.Size.toNat).all (· == 0)
theorem isSz_or {n : Int} (h : isSz n = true) : n = 0 ∨ n = 4 ∨ n = 16 := by
  unfold isSz at h
  simp only [Bool.or_eq_true, beq_iff_eq] at h
  omega
theorem right_go (k : Nat) (a : S_api_Addr) (h : a.Size = 0 ∨ a.Size = 4 ∨ a.Size = 16) : addr_Right.f (k + 20) a = some (((arL 16 a.B).drop a.Size.toNat).all (· == 0)) := by
  have h16 : (arL 16 a.B).length = 16 := arL_length _ _
  have ht : (arL 16 a.B).take (Int.toNat 16) = arL 16 a.B := by rw [List.take_of_length_le]; rw [h16]; exact Nat.le_refl _
  obtain ⟨r, h1, h2⟩ := trim_ok k ((arL 16 a.B).drop a.Size.toNat) (by rw [List.length_drop, h16]; omega)
  have hc : (if (a.Size == (0 : Int)) = true then some (a.Size == (0 : Int) : Bool) else (if (a.Size == (4 : Int)) = true then some (a.Size == (4 : Int) : Bool) else some (a.Size == (16 : Int) : Bool))) = some true := by
    rcases h with h | h | h <;> simp [h]
  unfold addr_Right.f
  rw [ht, hc, Option.bind_some, if_pos rfl, if_pos (by omega), h1, Option.bind_some, h2]
theorem right_ok (k : Nat) (a : S_api_Addr) : addr_Right.f (k + 20) a = some (rightB a) := by
  by_cases h : a.Size = 0 ∨ a.Size = 4 ∨ a.Size = 16
  · rw [right_go k a h]
    have : isSz a.Size = true := by unfold isSz; simp; omega
    unfold rightB
    rw [this, Bool.true_and]
  · have h0 : ¬ a.Size = 0 := by omega
    have h4 : ¬ a.Size = 4 := by omega
    have h16 : ¬ a.Size = 16 := by omega
    unfold addr_Right.f rightB isSz
    simp [h0, h4, h16]
def zeros : List Int := List.replicate 16 0
def mcastB (a : S_api_Addr) : Bool := rightB a && (if a.Size = 4 then Int.fdiv (ar a.B 0) (2 ^ (min (4 : Int).toNat IntKind.u8.bits)) == 14 else a.Size == 16 && ar a.B 0 == 255)
theorem mcast_ok (k : Nat) (a : S_api_Addr) : addr_Multicast.f (k + 20) a = some (mcastB a) := by
  unfold addr_Multicast.f mcastB
  rw [right_ok, Option.bind_some]
  cases rightB a
  · rfl
  · simp only [Bool.not_true, Bool.false_eq_true, if_false, Bool.true_and]
    by_cases h4 : a.Size = 4
    · simp [h4]
    · by_cases h16 : a.Size = 16
      · simp [h16]
      · simp [h4, h16]
theorem of_ok (b : List Int) : addr_Of.f b = some (if isSz b.length = true then (⟨b.length, arC 16 zeros b⟩, 0) else (⟨0, zeros⟩, 1)) := by
  have hc : ∀ n : Int, (if (n == (0 : Int)) = true then some (n == (0 : Int) : Bool) else (if (n == (4 : Int)) = true then some (n == (4 : Int) : Bool) else some (n == (16 : Int) : Bool))) = some (isSz n) := by
    intro n
    unfold isSz
    cases h : (n == 0) <;> cases h' : (n == 4) <;> simp
  unfold addr_Of.f
  rw [hc, Option.bind_some]
  cases isSz (b.length : Int) <;> rfl
def rootL (a : S_api_Addr) : List Int := (arL 16 a.B).take a.Size.toNat
theorem addrbytes_ok (k : Nat) (a : S_api_Addr) (h : rightB a = true) : addr_Bytes.f (k + 20) a = some (rootL a) := by
  unfold addr_Bytes.f
  have hs : a.Size = 0 ∨ a.Size = 4 ∨ a.Size = 16 := isSz_or (by unfold rightB at h; simp only [Bool.and_eq_true] at h; exact h.1)
  rw [right_ok, h, Option.bind_some, if_neg (by simp), if_pos (by omega), clone_ok _ (by simp [arL_length]; omega), Option.bind_some]
  rfl
theorem rootL_length (a : S_api_Addr) (h : rightB a = true) : ((rootL a).length : Int) = a.Size := by
  have hs : a.Size = 0 ∨ a.Size = 4 ∨ a.Size = 16 := isSz_or (by unfold rightB at h; simp only [Bool.and_eq_true] at h; exact h.1)
  unfold rootL
  rw [List.length_take, arL_length]
  omega
theorem root_back (a : S_api_Addr) (h : rightB a = true) (hl : a.B.length = 16) : (⟨((rootL a).length : Int), arC 16 zeros (rootL a)⟩ : S_api_Addr) = a := by
  have hs : a.Size = 0 ∨ a.Size = 4 ∨ a.Size = 16 := isSz_or (by unfold rightB at h; simp only [Bool.and_eq_true] at h; exact h.1)
  have hz : ((arL 16 a.B).drop a.Size.toNat).all (· == 0) = true := by unfold rightB at h; simp only [Bool.and_eq_true] at h; exact h.2
  have hB : arL 16 a.B = a.B := by rw [← hl]; exact arL_self _
  rw [hB] at hz
  have hr := rootL_length a h
  obtain ⟨S, B⟩ := a
  simp only [S_api_Addr.mk.injEq] at *
  refine ⟨hr, ?_⟩
  apply List.ext_getElem
  · rw [arC_length, hl]
  · intro i h1 h2
    have hi : i < 16 := by rw [arC_length] at h1; exact h1
    rw [← ar_at _ i h1, ar_arC _ _ _ _ hi]
    have hrl : (rootL ⟨S, B⟩).length = S.toNat := by omega
    by_cases hlt : i < S.toNat
    · rw [if_pos (by omega)]
      have : rootL ⟨S, B⟩ = B.take S.toNat := by unfold rootL; simp only; rw [hB]
      rw [this, ar_at _ _ (by simp <;> omega)]
      simp
    · rw [if_neg (by omega)]
      have hm : B[i] ∈ B.drop S.toNat := by
        have e : (B.drop S.toNat)[i - S.toNat]? = some B[i] := by rw [List.getElem?_drop, show S.toNat + (i - S.toNat) = i by omega, List.getElem?_eq_getElem h2]
        exact List.mem_of_getElem? e
      have hz' := List.all_eq_true.1 hz B[i] hm
      have : B[i] = 0 := by simpa using hz'
      rw [this]
      unfold zeros ar
      rw [List.getD_eq_getElem?_getD, List.getElem?_replicate, if_pos hi]
      rfl
theorem rootL_isB (a : S_api_Addr) (h : isB a.B) (hl : a.B.length = 16) : isB (rootL a) := by
  have hB : arL 16 a.B = a.B := by rw [← hl]; exact arL_self _
  intro y hy
  unfold rootL at hy
  rw [hB] at hy
  exact h y (List.mem_of_mem_take hy)
/-! tunnels -/
def rightT (t : S_api_Tunnel) : Bool :=
  rightB t.Root && (decide (0 ≤ t.Label) && (decide (t.Label ≤ 1048575) &&
  (if t.Kind = 0 then IntKind.i64.wrap (t.Root.Size + (t.Id.length : Int)) == 0
   else if t.Kind = 1 then t.Root.Size == 4 && (t.Id.length : Int) == 6
   else if t.Kind = 2 ∨ t.Kind = 7 then decide (t.Root.Size > 0) && decide ((t.Id.length : Int) ≤ 64)
   else if t.Kind = 3 ∨ t.Kind = 4 ∨ t.Kind = 5 then isSz t.Id.length && ((t.Id.length : Int) == t.Root.Size && mcastB ⟨t.Id.length, arC 16 zeros t.Id⟩)
   else if t.Kind = 6 then decide (t.Root.Size > 0) && (t.Id.length : Int) == 0
   else false)))
theorem iteB (p q : Bool) : (if p = true then some q else some false) = some (p && q) := by cases p <;> rfl
theorem pright_ok (k : Nat) (t : S_api_Tunnel) : pmsi_Right.f (k + 20) t = some (rightT t) := by
  unfold pmsi_Right.f rightT
  rw [right_ok, Option.bind_some]
  cases rightB t.Root
  · rfl
  · simp only [Bool.not_true, Bool.false_eq_true, if_false, Bool.true_and]
    by_cases hl : t.Label < 0
    · have : ¬ 0 ≤ t.Label := by omega
      simp [hl, this]
    · have hl' : 0 ≤ t.Label := by omega
      by_cases hm : t.Label > 1048575
      · have : ¬ t.Label ≤ 1048575 := by omega
        simp [hl, hl', hm, this]
      · have hm' : t.Label ≤ 1048575 := by omega
        simp only [hl, hl', hm, hm', decide_false, decide_true, Bool.false_eq_true, if_false, Option.bind_some, Bool.true_and]
        by_cases k0 : t.Kind = 0
        · simp [k0]
        by_cases k1 : t.Kind = 1
        · rw [iteB]; simp [k1]
        by_cases k27 : t.Kind = 2 ∨ t.Kind = 7
        · rw [iteB, iteB]; rcases k27 with h | h <;> simp [h]
        by_cases k345 : t.Kind = 3 ∨ t.Kind = 4 ∨ t.Kind = 5
        · rw [of_ok]
          have e2 : ¬ t.Kind = 2 := by omega
          have e7 : ¬ t.Kind = 7 := by omega
          simp only [k0, k1, k27, k345, if_true, if_false, e2, e7, beq_iff_eq, Bool.false_eq_true, Option.bind_some, beq_eq_false_iff_ne.2 e2, beq_eq_false_iff_ne.2 e7]
          have e : (if (t.Kind == 3) = true then some (t.Kind == 3) else if (t.Kind == 4) = true then some (t.Kind == 4) else some (t.Kind == 5)) = some true := by
            rcases k345 with h | h | h <;> simp [h]
          simp only [beq_iff_eq] at e
          rw [e, Option.bind_some, if_pos rfl]
          cases hz : isSz (t.Id.length : Int)
          · simp
          · simp only [if_true, mcast_ok]
            by_cases hs : (t.Id.length : Int) = t.Root.Size
            · simp [hs]
            · simp [hs]
        · have h2 : ¬ t.Kind = 2 := by omega
          have h7 : ¬ t.Kind = 7 := by omega
          have h3 : ¬ t.Kind = 3 := by omega
          have h4 : ¬ t.Kind = 4 := by omega
          have h5 : ¬ t.Kind = 5 := by omega
          by_cases k6 : t.Kind = 6
          · rw [iteB, iteB, iteB]; simp [k6]
          · simp [k0, k1, h2, h7, h3, h4, h5, k6]
theorem right_cases (t : S_api_Tunnel) (h : rightT t = true) (hI : t.Id.length ≤ 140737488351232) : rightB t.Root = true ∧ 0 ≤ t.Label ∧ t.Label ≤ 1048575 ∧
    ((t.Kind = 0 ∧ t.Root.Size = 0 ∧ t.Id = []) ∨ (t.Kind = 1 ∧ t.Root.Size = 4 ∧ t.Id.length = 6) ∨ ((t.Kind = 2 ∨ t.Kind = 7) ∧ 0 < t.Root.Size ∧ t.Id.length ≤ 64) ∨
     ((t.Kind = 3 ∨ t.Kind = 4 ∨ t.Kind = 5) ∧ (t.Id.length : Int) = t.Root.Size) ∨ (t.Kind = 6 ∧ t.Id = [])) := by
  unfold rightT at h
  simp only [Bool.and_eq_true, decide_eq_true_eq] at h
  obtain ⟨h1, h2, h3, h4⟩ := h
  have hs : t.Root.Size = 0 ∨ t.Root.Size = 4 ∨ t.Root.Size = 16 := isSz_or (by unfold rightB at h1; simp only [Bool.and_eq_true] at h1; exact h1.1)
  refine ⟨h1, h2, h3, ?_⟩
  split at h4
  · rename_i hk
    rw [w64 _ (by omega)] at h4
    have h5 : t.Root.Size + (t.Id.length : Int) = 0 := by simpa using h4
    exact .inl ⟨hk, by omega, List.eq_nil_of_length_eq_zero (by omega)⟩
  · split at h4
    · rename_i hk
      simp only [Bool.and_eq_true, beq_iff_eq] at h4
      exact .inr (.inl ⟨hk, h4.1, by omega⟩)
    · split at h4
      · rename_i hk
        simp only [Bool.and_eq_true, decide_eq_true_eq] at h4
        exact .inr (.inr (.inl ⟨hk, h4.1, by omega⟩))
      · split at h4
        · rename_i hk
          simp only [Bool.and_eq_true, beq_iff_eq] at h4
          exact .inr (.inr (.inr (.inl ⟨hk, h4.2.1⟩)))
        · split at h4
          · rename_i hk
            simp only [Bool.and_eq_true, beq_iff_eq] at h4
            exact .inr (.inr (.inr (.inr ⟨hk, List.eq_nil_of_length_eq_zero (by omega)⟩)))
          · cases h4
def famL (a : S_api_Addr) : Int := if a.Size = 4 then 1 else 2
def identL (t : S_api_Tunnel) : List Int :=
  if t.Kind = 1 then ((t.Id.take 4 ++ [0, 0]) ++ t.Id.drop 4) ++ rootL t.Root
  else if t.Kind = 7 then (([7, 0, famL t.Root, IntKind.u8.wrap t.Root.Size] ++ rootL t.Root) ++ putL t.Id.length 2) ++ t.Id
  else if t.Kind = 2 then (([6, 0, famL t.Root, IntKind.u8.wrap t.Root.Size] ++ rootL t.Root) ++ putL t.Id.length 2) ++ t.Id
  else rootL t.Root ++ t.Id
theorem fam_ok (a : S_api_Addr) : pmsi_family.f a = some (famL a) := by
  unfold pmsi_family.f famL
  by_cases h : a.Size = 4 <;> simp [h]
theorem rootL_le (a : S_api_Addr) : (rootL a).length ≤ 16 := by unfold rootL; rw [List.length_take, arL_length]; omega
theorem ident_ok (k : Nat) (t : S_api_Tunnel) (h : rightT t = true) (hI : t.Id.length ≤ 140737488351232) : pmsi_identifier.f (k + 20) t = some (identL t) := by
  obtain ⟨h1, h2, h3, h4⟩ := right_cases t h hI
  have hr := rootL_le t.Root
  unfold pmsi_identifier.f identL
  rw [addrbytes_ok k _ h1, Option.bind_some]
  by_cases k1 : t.Kind = 1
  · have hid : t.Id.length = 6 := by
      rcases h4 with h4 | h4 | h4 | h4 | h4 <;> omega
    have e1 : t.Id.take (Int.toNat (t.Id.length : Int)) = t.Id := by simp
    rw [if_pos (by simpa using k1), if_pos k1, if_pos (by omega), clone_ok _ (by simp <;> omega), Option.bind_some, if_pos (by simp <;> omega), if_pos (by omega), e1, if_pos (by simp <;> omega), if_pos (by simp <;> omega)]
    rfl
  · by_cases k7 : t.Kind = 7
    · have hid : t.Id.length ≤ 64 := by rcases h4 with h4 | h4 | h4 | h4 | h4 <;> omega
      have hp := putL_length (t.Id.length : Int) 2 (by omega) (by omega)
      rw [if_neg (by simpa using k1), if_pos (by simpa using k7), if_neg k1, if_pos k7, fam_ok, Option.bind_some, if_pos (by simp <;> omega),
        show (2 : Int) = ((2 : Nat) : Int) from rfl, put_ok (k + 15) _ _ 2 (by simp <;> omega) (by omega) (by omega) (by omega) (by omega), Option.bind_some, if_pos (by simp [hp]; omega)]
    · by_cases k2 : t.Kind = 2
      · have hid : t.Id.length ≤ 64 := by rcases h4 with h4 | h4 | h4 | h4 | h4 <;> omega
        have hp := putL_length (t.Id.length : Int) 2 (by omega) (by omega)
        rw [if_neg (by simpa using k1), if_neg (by simpa using k7), if_pos (by simpa using k2), if_neg k1, if_neg k7, if_pos k2, fam_ok, Option.bind_some, if_pos (by simp <;> omega),
          show (2 : Int) = ((2 : Nat) : Int) from rfl, put_ok (k + 15) _ _ 2 (by simp <;> omega) (by omega) (by omega) (by omega) (by omega), Option.bind_some, if_pos (by simp [hp]; omega)]
      · rw [if_neg (by simpa using k1), if_neg (by simpa using k7), if_neg (by simpa using k2), if_neg k1, if_neg k7, if_neg k2, if_pos (by omega)]
def leafL (b : Bool) : Int := if b = true then 1 else 0
def bytesT (t : S_api_Tunnel) : List Int := ([leafL t.Leaf, IntKind.u8.wrap t.Kind] ++ putL (16 * t.Label) 3) ++ identL t
theorem identL_le (t : S_api_Tunnel) (h : rightT t = true) (hI : t.Id.length ≤ 140737488351232) : (identL t).length ≤ t.Id.length + 22 := by
  have hr := rootL_le t.Root
  have hp : ∀ n : Int, (putL n 2).length = 2 := fun n => rfl
  unfold identL
  split
  · simp; omega
  · split
    · simp [hp]; omega
    · split
      · simp [hp]; omega
      · simp; omega
theorem label_ok (k : Nat) (l : Int) (h0 : 0 ≤ l) (h1 : l ≤ 1048575) : label_Bytes.f (k + 20) l false = some (putL (16 * l) 3, 0) := by
  unfold label_Bytes.f
  have e : IntKind.i64.wrap (l * 2 ^ (min (4 : Int).toNat IntKind.i64.bits)) = 16 * l := by
    have : (2 : Int) ^ (min (4 : Int).toNat IntKind.i64.bits) = 16 := rfl
    rw [this, w64 _ (by omega)]; omega
  rw [if_neg (by simp <;> omega), e]
  simp only [Bool.false_eq_true, if_false, Option.bind_some]
  rw [show (3 : Int) = ((3 : Nat) : Int) from rfl, put_ok (k + 15) [] _ 3 (by simp) (by omega) (by omega) (by omega) (by omega)]
  rfl
theorem pbytes_ok (k : Nat) (t : S_api_Tunnel) (hI : t.Id.length ≤ 140737488351232) : pmsi_Bytes.f (k + 20) t = some (if rightT t = true then (bytesT t, 0) else ([], 1)) := by
  unfold pmsi_Bytes.f
  rw [pright_ok, Option.bind_some]
  cases h : rightT t
  · simp
  · obtain ⟨h1, h2, h3, _⟩ := right_cases t h hI
    have hl := identL_le t h hI
    have hp : (putL (16 * t.Label) 3).length = 3 := rfl
    simp only [Bool.not_true, Bool.false_eq_true, if_false, if_true]
    have e : (if t.Leaf = true then some ((1 : Int) : Int) else some ((0 : Int) : Int)) = some (leafL t.Leaf) := by unfold leafL; split <;> rfl
    rw [e, Option.bind_some, label_ok k _ h2 h3, Option.bind_some, if_pos (by simp [hp]), ident_ok k t h hI, Option.bind_some, if_pos (by simp [hp]; omega)]
    rfl
theorem equal_f (a b : List Int) : bytes_Equal.f a b = some (b2s a == b2s b) := by unfold bytes_Equal.f; rw [bstr_toList, bstr_toList]
theorem same_ok (a b : S_api_Tunnel) : pmsi_Same.f a b = some (a.Kind == b.Kind && ((a.Root.Size == b.Root.Size) && ((eqA 16 a.Root.B b.Root.B) && true)) && (b2s a.Id == b2s b.Id)) := by
  unfold pmsi_Same.f
  rw [equal_f]
  cases (a.Kind == b.Kind) <;> cases ((a.Root.Size == b.Root.Size) && ((eqA 16 a.Root.B b.Root.B) && true)) <;> simp
theorem take_app (l rest : List Int) (n : Int) (hn : (l.length : Int) = n) (hl : l.length + rest.length ≤ 140737488355328) : cursor_Reader_Take.f ⟨⟨l ++ rest, false⟩⟩ n = some (l, ⟨⟨rest, false⟩⟩) := by
  subst hn
  rw [take_ok _ _ (by simp; omega) rfl (by omega) (by simp; omega)]
  simp
theorem num1 (k : Nat) (c : Int) (rest : List Int) (h0 : 0 ≤ c) (h1 : c ≤ 255) : cursor_Reader_Num.f (k + 5) ⟨⟨c :: rest, false⟩⟩ 1 = some (c, ⟨⟨rest, false⟩⟩) := by
  rw [num_ok k _ 1 rfl (by omega) (by omega) (by simp; omega)]
  show some (numL [c] 0, _) = _
  rw [numL_cons _ _ _ (by omega) (by omega) h0 h1, numL]
  simp
theorem num2 (k : Nat) (n : Int) (rest : List Int) (h0 : 0 ≤ n) (h1 : n < 65536) : cursor_Reader_Num.f (k + 5) ⟨⟨putL n 2 ++ rest, false⟩⟩ 2 = some (n, ⟨⟨rest, false⟩⟩) := by
  have hp : (putL n 2).length = 2 := rfl
  rw [num_ok k _ 2 rfl (by omega) (by omega) (by simp [hp]; omega)]
  show some (numL (putL n 2) 0, _) = _
  rw [num_put n 2 (by omega) (by omega) h0 (by omega)]
  rfl
theorem numL3 (L : Int) (h0 : 0 ≤ L) (h1 : L ≤ 1048575) : numL (putL (16 * L) 3) 0 = 16 * L := num_put _ 3 (by omega) (by omega) (by omega) (by omega)
theorem and15 (n : Nat) (h : n < 9223372036854775808) : (BitVec.ofInt IntKind.i64.bits (n : Int) &&& BitVec.ofInt IntKind.i64.bits (15 : Int)).toNat = n % 16 := by
  have e1 : (BitVec.ofInt IntKind.i64.bits (n : Int)).toNat = n := by
    rw [BitVec.toNat_ofInt]
    show (_ % ((2 ^ 64 : Nat) : Int)).toNat = _
    omega
  have e2 : (BitVec.ofInt IntKind.i64.bits (15 : Int)).toNat = 2 ^ 4 - 1 := rfl
  rw [BitVec.toNat_and, e1, e2, Nat.and_two_pow_sub_one_eq_mod]
theorem labelread_ok (k : Nat) (L : Int) (h0 : 0 ≤ L) (h1 : L ≤ 1048575) : ∃ f e, label_Read.f (k + 20) (putL (16 * L) 3) = some (L, f, e) := by
  unfold label_Read.f cursor_Open.f
  have hp : (putL (16 * L) 3).length = 3 := rfl
  rw [clone_ok _ (by rw [hp]; omega)]
  try simp only [Option.bind_some]
  rw [num_ok (k + 15) _ 3 rfl (by omega) (by omega) (by simp [hp]), Option.bind_some]
  have ht : (putL (16 * L) 3).take (Int.toNat 3) = putL (16 * L) 3 := rfl
  simp only [ht, numL3 L h0 h1]
  obtain ⟨m, hm⟩ := Int.eq_ofNat_of_zero_le (show 0 ≤ 16 * L by omega)
  have ha : (BitVec.ofInt IntKind.i64.bits (16 * L) &&& BitVec.ofInt IntKind.i64.bits (15 : Int)).toNat = 0 := by
    rw [hm, and15 m (by omega)]; omega
  have hf : Int.fdiv (16 * L) (2 ^ (min (4 : Int).toNat IntKind.i64.bits)) = L := by
    have : (2 : Int) ^ (min (4 : Int).toNat IntKind.i64.bits) = 16 := rfl
    rw [this, Int.fdiv_eq_ediv_of_nonneg _ (by omega)]; omega
  rw [ha, hf]
  refine ⟨_, _, if_neg ?_⟩
  rw [hp]
  decide
def zeroT : S_api_Tunnel := ⟨false, 0, 0, ⟨0, List.replicate 16 0⟩, []⟩
def tailP (k : Nat) (t : S_api_Tunnel) (rr : S_cursor_rest) (b : List Int) : Option (S_api_Tunnel × Int) :=
  (pmsi_Bytes.f k t).bind fun t59 => ((cursor_rest_Bad.f rr).bind fun t70 => (if t70 = true then some (true : Bool) else (if (t59.2 != (0 : Int)) = true then some (true : Bool) else (bytes_Equal.f t59.1 b).bind fun t73 => some (!t73 : Bool)))).bind fun s62 => (if s62 = true then some (zeroT, (4 : Int)) else some (t, (0 : Int)))
theorem tail_same (k : Nat) (t : S_api_Tunnel) (rr : S_cursor_rest) (h : rightT t = true) (hI : t.Id.length ≤ 140737488351232) (hr : rr.bad = false) : tailP (k + 20) t rr (bytesT t) = some (t, 0) := by
  unfold tailP cursor_rest_Bad.f
  rw [pbytes_ok k t hI, if_pos h, hr]
  simp only [Option.bind_some, equal_f]
  simp
theorem tail_any (k : Nat) (t : S_api_Tunnel) (rr : S_cursor_rest) (b : List Int) (hI : t.Id.length ≤ 140737488351232) :
    ∃ u e, tailP (k + 20) t rr b = some (u, e) ∧ ((e = 4 ∧ u = zeroT) ∨ (e = 0 ∧ u.Id.length ≤ 140737488351232 ∧ ∃ x, pmsi_Bytes.f (k + 20) u = some (x, 0) ∧ b2s x = b2s b)) := by
  unfold tailP cursor_rest_Bad.f
  have hp := pbytes_ok k t hI
  cases hr : rr.bad
  · cases h : rightT t
    · rw [h] at hp
      rw [hp]
      exact ⟨zeroT, 4, rfl, .inl ⟨rfl, rfl⟩⟩
    · rw [if_pos h] at hp
      rw [hp]
      simp only [Option.bind_some, equal_f]
      cases hb : (b2s (bytesT t) == b2s b)
      · exact ⟨zeroT, 4, rfl, .inl ⟨rfl, rfl⟩⟩
      · exact ⟨t, 0, rfl, .inr ⟨rfl, hI, _, hp, eq_of_beq hb⟩⟩
  · rw [hp]
    exact ⟨zeroT, 4, by simp, .inl ⟨rfl, rfl⟩⟩
theorem leaf_back (b : Bool) : (leafL b == 1) = b := by cases b <;> rfl
theorem of_root (a : S_api_Addr) (h : rightB a = true) (hl : a.B.length = 16) : addr_Of.f (rootL a) = some (a, 0) := by
  have hs : isSz ((rootL a).length : Int) = true := by
    rw [rootL_length a h]; unfold rightB at h; simp only [Bool.and_eq_true] at h; exact h.1
  rw [of_ok, if_pos hs, root_back a h hl]
theorem root_ok (a : S_api_Addr) (rest : List Int) (n : Int) (hn : n = a.Size) (h : rightB a = true) (hl : a.B.length = 16) (hr : rest.length ≤ 140737488351232) : pmsi_root.f ⟨⟨rootL a ++ rest, false⟩⟩ n = some (a, ⟨⟨rest, false⟩⟩) := by
  unfold pmsi_root.f
  have := rootL_le a
  rw [take_app _ _ n (by rw [hn]; exact rootL_length a h) (by omega), Option.bind_some]
  simp only
  rw [of_root a h hl, Option.bind_some]
theorem parse_bytes (k : Nat) (t : S_api_Tunnel) (h : rightT t = true) (hI : t.Id.length ≤ 140737488351000) (hB : t.Root.B.length = 16) : pmsi_Parse.f (k + 20) (bytesT t) = some (t, 0) := by
  obtain ⟨h1, h2, h3, h4⟩ := right_cases t h (by omega)
  have hil := identL_le t h (by omega)
  have hrl := rootL_le t.Root
  have hrs := rootL_length t.Root h1
  have hsz : t.Root.Size = 0 ∨ t.Root.Size = 4 ∨ t.Root.Size = 16 := isSz_or (by unfold rightB at h1; simp only [Bool.and_eq_true] at h1; exact h1.1)
  have hK : 0 ≤ t.Kind ∧ t.Kind ≤ 7 := by omega
  have hKw : IntKind.u8.wrap t.Kind = t.Kind := by rw [IntKind.wrap_u8]; omega
  have hSw : IntKind.u8.wrap t.Root.Size = t.Root.Size := by rw [IntKind.wrap_u8]; omega
  have hp3 : (putL (16 * t.Label) 3).length = 3 := rfl
  have hb : bytesT t = leafL t.Leaf :: t.Kind :: (putL (16 * t.Label) 3 ++ identL t) := by unfold bytesT; rw [hKw]; rfl
  have hlen : (bytesT t).length ≤ 140737488351100 := by rw [hb]; simp [hp3]; omega
  have hlf : 0 ≤ leafL t.Leaf ∧ leafL t.Leaf ≤ 255 := by unfold leafL; split <;> omega
  obtain ⟨f, e, hlr⟩ := labelread_ok k t.Label h2 h3
  have ht : (⟨leafL t.Leaf == 1, t.Kind, t.Label, t.Root, t.Id⟩ : S_api_Tunnel) = t := by rw [leaf_back]
  have hT : ∀ rr : S_cursor_rest, rr.bad = false → tailP (k + 20) ⟨leafL t.Leaf == 1, t.Kind, t.Label, t.Root, t.Id⟩ rr (bytesT t) = some (t, 0) := fun rr hr => by
    rw [ht]; exact tail_same k t rr h (by omega) hr
  unfold pmsi_Parse.f cursor_Open.f
  rw [clone_ok _ (by omega)]
  try simp only [Option.bind_some]
  rw [show cursor_Reader_Num.f (k + 20) ⟨⟨bytesT t, false⟩⟩ 1 = some (leafL t.Leaf, ⟨⟨t.Kind :: (putL (16 * t.Label) 3 ++ identL t), false⟩⟩) from by rw [hb]; exact num1 (k + 15) _ _ hlf.1 hlf.2]
  try simp only [Option.bind_some]
  rw [num1 (k + 15) _ _ (by omega) (by omega)]
  try simp only [Option.bind_some]
  rw [take_app _ _ 3 (by rw [hp3]; rfl) (by rw [hp3]; omega)]
  try simp only [Option.bind_some]
  rw [hlr]
  try simp only [Option.bind_some]
  rcases h4 with ⟨hk, hs, hid⟩ | ⟨hk, hs, hid⟩ | ⟨hk, hs, hid⟩ | ⟨hk, hid⟩ | ⟨hk, hid⟩
  · -- none
    have e : identL t = rootL t.Root ++ [] := by unfold identL; rw [if_neg (by omega), if_neg (by omega), if_neg (by omega), hid]
    rw [if_neg (by simp [hk]), show (if (t.Kind == (2 : Int)) = true then some (t.Kind == (2 : Int)) else some (t.Kind == (7 : Int))) = some false from by simp [hk]]
    try simp only [Option.bind_some, Bool.false_eq_true, if_false]
    rw [show (if (t.Kind == (3 : Int)) = true then some (t.Kind == (3 : Int)) else if (t.Kind == (4 : Int)) = true then some (t.Kind == (4 : Int)) else some (t.Kind == (5 : Int))) = some false from by simp [hk]]
    try simp only [Option.bind_some, Bool.false_eq_true, if_false]
    rw [left_f, e]
    try simp only [Bool.false_eq_true, if_false, Option.bind_some]
    rw [root_ok t.Root [] _ (by simp; omega) h1 hB (by simp)]
    try simp only [Option.bind_some]
    have := hT ⟨[], false⟩ rfl
    rw [hid] at this
    exact this
  · -- rsvp
    have e : identL t = t.Id.take 4 ++ ([0, 0] ++ (t.Id.drop 4 ++ (rootL t.Root ++ []))) := by unfold identL; rw [if_pos hk]; simp
    rw [if_pos (by simp [hk]), e, take_app _ _ 4 (by simp; omega) (by simp; omega)]
    try simp only [Option.bind_some]
    rw [take_app _ _ 2 (by simp) (by simp; omega)]
    try simp only [Option.bind_some]
    rw [take_app _ _ 2 (by simp; omega) (by simp; omega)]
    try simp only [Option.bind_some]
    rw [if_pos (by simp; omega)]
    try simp only [Option.bind_some]
    rw [root_ok t.Root [] _ (by omega) h1 hB (by simp)]
    simp only [Option.bind_some, List.take_append_drop]
    exact hT ⟨[], false⟩ rfl
  · -- mldp, mesh
    have e : ∃ c, (c = 6 ∨ c = 7) ∧ identL t = [c, 0, famL t.Root] ++ (t.Root.Size :: (rootL t.Root ++ (putL t.Id.length 2 ++ (t.Id ++ [])))) := by
      unfold identL
      rcases hk with hk | hk
      · exact ⟨6, .inl rfl, by rw [if_neg (by omega), if_neg (by omega), if_pos hk, hSw]; simp⟩
      · exact ⟨7, .inr rfl, by rw [if_neg (by omega), if_pos hk, hSw]; simp⟩
    obtain ⟨c, hc, e⟩ := e
    have hp2 : (putL (t.Id.length : Int) 2).length = 2 := rfl
    rw [if_neg (by simp; omega), show (if (t.Kind == (2 : Int)) = true then some (t.Kind == (2 : Int)) else some (t.Kind == (7 : Int))) = some true from by rcases hk with hk | hk <;> simp [hk]]
    try simp only [Option.bind_some, if_true]
    rw [e, take_app _ _ 3 (by simp) (by simp [hp2]; omega)]
    try simp only [Option.bind_some]
    rw [num1 (k + 15) _ _ (by omega) (by omega)]
    try simp only [Option.bind_some]
    rw [root_ok t.Root _ _ rfl h1 hB (by simp [hp2]; omega)]
    try simp only [Option.bind_some]
    rw [num2 (k + 15) _ _ (by omega) (by omega)]
    try simp only [Option.bind_some]
    rw [take_app _ _ _ rfl (by simp; omega)]
    try simp only [Option.bind_some]
    exact hT ⟨[], false⟩ rfl
  · -- ssm, sm, bidir
    have e : identL t = rootL t.Root ++ t.Id := by unfold identL; rw [if_neg (by omega), if_neg (by omega), if_neg (by omega)]
    have hleft : IntKind.i64.wrap (Int.tdiv ((rootL t.Root ++ t.Id).length : Int) 2) = t.Root.Size := by
      rw [List.length_append]
      have : (((rootL t.Root).length + t.Id.length : Nat) : Int) = 2 * t.Root.Size := by omega
      rw [this, Int.mul_tdiv_cancel_left _ (by decide), w64 _ (by omega)]
    rw [if_neg (by simp; omega), show (if (t.Kind == (2 : Int)) = true then some (t.Kind == (2 : Int)) else some (t.Kind == (7 : Int))) = some false from by rcases hk with hk | hk | hk <;> simp [hk]]
    try simp only [Option.bind_some, Bool.false_eq_true, if_false]
    rw [show (if (t.Kind == (3 : Int)) = true then some (t.Kind == (3 : Int)) else if (t.Kind == (4 : Int)) = true then some (t.Kind == (4 : Int)) else some (t.Kind == (5 : Int))) = some true from by rcases hk with hk | hk | hk <;> simp [hk]]
    try simp only [Option.bind_some, if_true]
    rw [left_f, e]
    try simp only [Bool.false_eq_true, if_false, Option.bind_some]
    rw [hleft, root_ok t.Root _ _ rfl h1 hB (by omega)]
    try simp only [Option.bind_some]
    rw [left_f]
    try simp only [Bool.false_eq_true, if_false, Option.bind_some]
    rw [show (⟨⟨t.Id, false⟩⟩ : S_cursor_Reader) = ⟨⟨t.Id ++ [], false⟩⟩ from by simp, take_app _ _ _ rfl (by simp; omega)]
    try simp only [Option.bind_some]
    exact hT ⟨[], false⟩ rfl
  · -- copies
    have e : identL t = rootL t.Root ++ [] := by unfold identL; rw [if_neg (by omega), if_neg (by omega), if_neg (by omega), hid]
    rw [if_neg (by simp [hk]), show (if (t.Kind == (2 : Int)) = true then some (t.Kind == (2 : Int)) else some (t.Kind == (7 : Int))) = some false from by simp [hk]]
    try simp only [Option.bind_some, Bool.false_eq_true, if_false]
    rw [show (if (t.Kind == (3 : Int)) = true then some (t.Kind == (3 : Int)) else if (t.Kind == (4 : Int)) = true then some (t.Kind == (4 : Int)) else some (t.Kind == (5 : Int))) = some false from by simp [hk]]
    try simp only [Option.bind_some, Bool.false_eq_true, if_false]
    rw [left_f, e]
    try simp only [Bool.false_eq_true, if_false, Option.bind_some]
    rw [root_ok t.Root [] _ (by simp; omega) h1 hB (by simp)]
    try simp only [Option.bind_some]
    have := hT ⟨[], false⟩ rfl
    rw [hid] at this
    exact this
def T1 : S_api_Tunnel := ⟨true, 2, 0, ⟨4, [10, 0, 0, 1, 0, 0, 0, 0, 0, 0, 0, 0, 0, 0, 0, 0]⟩, [1, 2]⟩
def T3 : S_api_Tunnel := ⟨false, 3, 0, ⟨4, [10, 0, 0, 1, 0, 0, 0, 0, 0, 0, 0, 0, 0, 0, 0, 0]⟩, [10, 0, 0, 2]⟩
theorem small06 (k : Nat) : vinerylaw06_small.f (k + 20) = some true := by
  have e1 : pmsi_Bytes.f (k + 20) T1 = some (bytesT T1, 0) := by rw [pbytes_ok k T1 (by decide), if_pos (by decide)]
  have e2 : pmsi_Parse.f (k + 20) (bytesT T1) = some (T1, 0) := parse_bytes k T1 (by decide) (by decide) rfl
  have e3 : pmsi_Bytes.f (k + 20) T3 = some ([], 1) := by rw [pbytes_ok k T3 (by decide), if_neg (by decide)]
  unfold T1 at e1 e2
  unfold T3 at e3
  unfold vinerylaw06_small.f
  rw [e1]
  try simp only [Option.bind_some]
  rw [e2]
  try simp only [Option.bind_some]
  rw [e3]
  simp only [Option.bind_some, bstr_toList, same_ok]
  decide
theorem eqA_eq {x y : List Int} (hx : x.length = 16) (hy : y.length = 16) : eqA 16 x y = (x == y) := by
  rw [Bool.eq_iff_iff, eqA_iff]
  simp only [beq_iff_eq]
  refine ⟨fun h => ?_, fun e => by subst e; exact fun _ _ => rfl⟩
  apply List.ext_getElem
  · omega
  · intro i h1 h2
    have := h i (by omega)
    rwa [ar_at _ _ h1, ar_at _ _ h2] at this
theorem addr_eq {a b : S_api_Addr} (ha : a.B.length = 16) (hb : b.B.length = 16) : ((a.Size == b.Size) && (eqA 16 a.B b.B && true)) = decide (a = b) := by
  rw [eqA_eq ha hb, Bool.eq_iff_iff]
  obtain ⟨s, x⟩ := a
  obtain ⟨s', x'⟩ := b
  simp
theorem root_inj {a b : S_api_Addr} (ha : rightB a = true) (hb : rightB b = true) (hla : a.B.length = 16) (hlb : b.B.length = 16) (e : rootL a = rootL b) : a = b := by
  rw [← root_back a ha hla, ← root_back b hb hlb, e]
theorem ident_inj {a b : S_api_Tunnel} (ha : rightT a = true) (hb : rightT b = true) (hIa : a.Id.length ≤ 140737488351232) (hIb : b.Id.length ≤ 140737488351232) (hk : a.Kind = b.Kind) (e : identL a = identL b) : rootL a.Root = rootL b.Root ∧ a.Id = b.Id := by
  obtain ⟨h1, h2, h3, h4⟩ := right_cases a ha hIa
  obtain ⟨g1, g2, g3, g4⟩ := right_cases b hb hIb
  have hs1 : a.Root.Size = 0 ∨ a.Root.Size = 4 ∨ a.Root.Size = 16 := isSz_or (by unfold rightB at h1; simp only [Bool.and_eq_true] at h1; exact h1.1)
  have hs2 : b.Root.Size = 0 ∨ b.Root.Size = 4 ∨ b.Root.Size = 16 := isSz_or (by unfold rightB at g1; simp only [Bool.and_eq_true] at g1; exact g1.1)
  have l1 := rootL_length a.Root h1
  have l2 := rootL_length b.Root g1
  unfold identL at e
  by_cases k1 : a.Kind = 1
  · have k1' : b.Kind = 1 := by omega
    have i1 : a.Id.length = 6 := by rcases h4 with h | h | h | h | h <;> omega
    have i2 : b.Id.length = 6 := by rcases g4 with h | h | h | h | h <;> omega
    rw [if_pos k1, if_pos k1'] at e
    obtain ⟨e1, e2⟩ := List.append_inj e (by simp; omega)
    obtain ⟨e3, e4⟩ := List.append_inj e1 (by simp; omega)
    obtain ⟨e5, _⟩ := List.append_inj e3 (by simp; omega)
    exact ⟨e2, by rw [← List.take_append_drop 4 a.Id, ← List.take_append_drop 4 b.Id, e5, e4]⟩
  · have k1' : ¬ b.Kind = 1 := by omega
    rw [if_neg k1, if_neg k1'] at e
    have mid : ∀ c : Int, (([c, 0, famL a.Root, IntKind.u8.wrap a.Root.Size] ++ rootL a.Root) ++ putL a.Id.length 2) ++ a.Id = (([c, 0, famL b.Root, IntKind.u8.wrap b.Root.Size] ++ rootL b.Root) ++ putL b.Id.length 2) ++ b.Id → rootL a.Root = rootL b.Root ∧ a.Id = b.Id := by
      intro c e
      rw [List.append_assoc, List.append_assoc, List.append_assoc, List.append_assoc] at e
      obtain ⟨e1, e2⟩ := List.append_inj e rfl
      simp only [List.cons.injEq, and_true] at e1
      have hw := e1.2.2.2
      rw [IntKind.wrap_u8, IntKind.wrap_u8] at hw
      have hs : a.Root.Size = b.Root.Size := by omega
      obtain ⟨e3, e4⟩ := List.append_inj e2 (by omega)
      obtain ⟨_, e5⟩ := List.append_inj e4 rfl
      exact ⟨e3, e5⟩
    by_cases k7 : a.Kind = 7
    · have k7' : b.Kind = 7 := by omega
      rw [if_pos k7, if_pos k7'] at e
      exact mid 7 e
    · have k7' : ¬ b.Kind = 7 := by omega
      rw [if_neg k7, if_neg k7'] at e
      by_cases k2 : a.Kind = 2
      · have k2' : b.Kind = 2 := by omega
        rw [if_pos k2, if_pos k2'] at e
        exact mid 6 e
      · have k2' : ¬ b.Kind = 2 := by omega
        rw [if_neg k2, if_neg k2'] at e
        have hlen := congrArg List.length e
        rw [List.length_append, List.length_append] at hlen
        have ia : a.Id = [] ∨ (a.Id.length : Int) = a.Root.Size := by
          rcases h4 with h | h | h | h | h
          · exact .inl h.2.2
          · omega
          · omega
          · exact .inr h.2
          · exact .inl h.2
        have ib : b.Id = [] ∨ (b.Id.length : Int) = b.Root.Size := by
          rcases g4 with h | h | h | h | h
          · exact .inl h.2.2
          · omega
          · omega
          · exact .inr h.2
          · exact .inl h.2
        have hh : (rootL a.Root).length = (rootL b.Root).length := by
          by_cases k345 : a.Kind = 3 ∨ a.Kind = 4 ∨ a.Kind = 5
          · have ja : (a.Id.length : Int) = a.Root.Size := by rcases h4 with h | h | h | h | h <;> first | exact h.2 | omega
            have jb : (b.Id.length : Int) = b.Root.Size := by rcases g4 with h | h | h | h | h <;> first | exact h.2 | omega
            omega
          · have ja : a.Id = [] := by
              rcases h4 with h | h | h | h | h
              · exact h.2.2
              · omega
              · omega
              · omega
              · exact h.2
            have jb : b.Id = [] := by
              rcases g4 with h | h | h | h | h
              · exact h.2.2
              · omega
              · omega
              · omega
              · exact h.2
            rw [ja, jb] at hlen
            simpa using hlen
        exact List.append_inj e hh
theorem identL_isB (t : S_api_Tunnel) (hI : isB t.Id) (hR : isB t.Root.B) (hl : t.Root.B.length = 16) : isB (identL t) := by
  have hr := rootL_isB t.Root hR hl
  have hf : famL t.Root = 1 ∨ famL t.Root = 2 := by unfold famL; split <;> simp
  have hc : ∀ c : Int, 0 ≤ c → c ≤ 255 → isB [c, 0, famL t.Root, IntKind.u8.wrap t.Root.Size] := by
    intro c h0 h1 y hy
    have := IntKind.wrap_u8 t.Root.Size
    simp only [List.mem_cons, List.not_mem_nil, or_false] at hy
    rcases hy with rfl | rfl | rfl | rfl <;> omega
  have hp : isB (putL (t.Id.length : Int) 2) := by
    intro y hy
    simp only [putL, List.mem_cons, List.not_mem_nil, or_false] at hy
    rcases hy with rfl | rfl <;> omega
  unfold identL
  split
  · refine isB.app (isB.app (isB.app (fun y hy => hI y (List.mem_of_mem_take hy)) ?_) (fun y hy => hI y (List.mem_of_mem_drop hy))) hr
    intro y hy
    simp only [List.mem_cons, List.not_mem_nil, or_false] at hy
    rcases hy with rfl | rfl <;> omega
  · split
    · exact isB.app (isB.app (isB.app (hc 7 (by omega) (by omega)) hr) hp) hI
    · split
      · exact isB.app (isB.app (isB.app (hc 6 (by omega) (by omega)) hr) hp) hI
      · exact isB.app hr hI
theorem PmsiApart.law (a : S_api_Tunnel) (ha : okS_api_Tunnel a) (b : S_api_Tunnel) (hb : okS_api_Tunnel b) : ∃ k, vinerylaw06_PmsiApart.f k a b = some true := by
  have hIa := okL_len ha.2.2.2.2
  have hIb := okL_len hb.2.2.2.2
  refine ⟨0 + 20, ?_⟩
  unfold vinerylaw06_PmsiApart.f
  rw [small06, Option.bind_some, pbytes_ok 0 a hIa, Option.bind_some, pbytes_ok 0 b hIb, Option.bind_some]
  cases h : rightT a
  · simp
  cases g : rightT b
  · simp
  have l1 : 5 ≤ (bytesT a).length := by unfold bytesT; simp [show (putL (16 * a.Label) 3).length = 3 from rfl]
  have l2 : 5 ≤ (bytesT b).length := by unfold bytesT; simp [show (putL (16 * b.Label) 3).length = 3 from rfl]
  have d1 : (bytesT a).drop 5 = identL a := rfl
  have d2 : (bytesT b).drop 5 = identL b := rfl
  simp only [if_true]
  rw [if_neg (by simp), if_neg (by simp; omega), same_ok, Option.bind_some]
  by_cases hk : a.Kind = b.Kind
  · rw [if_pos (by simpa using hk), if_pos (by omega), if_pos (by omega)]
    simp only [Int.toNat_natCast, List.take_length, bstr_toList]
    rw [show Int.toNat 5 = 5 from rfl, d1, d2, b2s_beq (identL_isB a (okL_isB ha.2.2.2.2) (okA_isB ha.2.2.2.1.2) ha.2.2.2.1.2.1) (identL_isB b (okL_isB hb.2.2.2.2) (okA_isB hb.2.2.2.1.2) hb.2.2.2.1.2.1),
      b2s_beq (okL_isB ha.2.2.2.2) (okL_isB hb.2.2.2.2), addr_eq ha.2.2.2.1.2.1 hb.2.2.2.1.2.1]
    have hkb : (a.Kind == b.Kind) = true := by simpa using hk
    have key : (decide (a.Root = b.Root) && (a.Id == b.Id)) = (identL a == identL b) := by
      rw [Bool.eq_iff_iff]
      simp only [Bool.and_eq_true, decide_eq_true_eq, beq_iff_eq]
      refine ⟨fun ⟨e1, e2⟩ => ?_, fun e => ?_⟩
      · unfold identL; rw [hk, e1, e2]
      · obtain ⟨e1, e2⟩ := ident_inj h g hIa hIb hk e
        exact ⟨root_inj (right_cases a h hIa).1 (right_cases b g hIb).1 ha.2.2.2.1.2.1 hb.2.2.2.1.2.1 e1, e2⟩
    rw [hkb, Bool.true_and, key]
    simp
  · have hkb : (a.Kind == b.Kind) = false := by simpa using hk
    rw [hkb]
    simp
end Go.E
