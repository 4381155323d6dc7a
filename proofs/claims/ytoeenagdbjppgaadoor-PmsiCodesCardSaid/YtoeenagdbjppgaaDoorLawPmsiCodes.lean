/- The plain law: what the walk computes is true, whatever the input. -/
import Derived.Test.YtoeenagdbjppgaaDoorGenPmsiCodes
import Derived.Test.YtoeenagdbjppgaaDoorEngR
set_option linter.unusedVariables false
set_option linter.unusedSimpArgs false
namespace Go.E
theorem bstr_toList (l : List UInt8) : (bstr l).toList = l := by rw [ByteArray.toList_eq]; simp [bstr]
theorem ite_some_tot {α : Type} {c : Prop} [Decidable c] (a b : α) : ∃ x, (if c then some a else some b) = some x := by
  by_cases h : c
  · exact ⟨a, if_pos h⟩
  · exact ⟨b, if_neg h⟩
theorem clone_ok (l : List Int) (h : l.length ≤ 140737488355328) : bytes_Clone.f l = some l := if_pos h
theorem next_bad (r : S_cursor_rest) (n : Int) (h : r.bad = true ∨ n < 0 ∨ n > r.left.length) : cursor_rest_next.f r n = some ([], ⟨r.left, true⟩) := by
  unfold cursor_rest_next.f
  by_cases hb : r.bad = true
  · simp [hb]
  · by_cases h1 : n < 0
    · simp [hb, h1]
    · have h2 : (r.left.length : Int) < n := by rcases h with h | h | h <;> first | exact absurd h hb | exact absurd h h1 | exact h
      simp [hb, h1, h2]
theorem next_ok (r : S_cursor_rest) (n : Int) (hb : r.bad = false) (h0 : 0 ≤ n) (h1 : n ≤ r.left.length) : cursor_rest_next.f r n = some (r.left.take n.toNat, ⟨r.left.drop n.toNat, false⟩) := by
  unfold cursor_rest_next.f
  have e0 : ¬ n < 0 := by omega
  have e1 : ¬ (r.left.length : Int) < n := by omega
  simp [hb, e0, e1, h0, h1]
theorem take_bad (r : S_cursor_Reader) (n : Int) (h : r.rest.bad = true ∨ n < 0 ∨ n > r.rest.left.length) : cursor_Reader_Take.f r n = some ([], ⟨⟨r.rest.left, true⟩⟩) := by
  unfold cursor_Reader_Take.f
  rw [next_bad _ _ h, Option.bind_some, clone_ok _ (by simp)]
  rfl
theorem take_ok (r : S_cursor_Reader) (n : Int) (hl : r.rest.left.length ≤ 140737488355328) (hb : r.rest.bad = false) (h0 : 0 ≤ n) (h1 : n ≤ r.rest.left.length) :
    cursor_Reader_Take.f r n = some (r.rest.left.take n.toNat, ⟨⟨r.rest.left.drop n.toNat, false⟩⟩) := by
  unfold cursor_Reader_Take.f
  rw [next_ok _ _ hb h0 h1, Option.bind_some, clone_ok _ (by simp; omega)]
  rfl
/-- what a number's bytes come to -/
def numL : List Int → Int → Int
  | [], x => x
  | c :: l, x => numL l (IntKind.i64.wrap (BitVec.ofInt IntKind.i64.bits (IntKind.i64.wrap (x * 2 ^ (min (8 : Int).toNat IntKind.i64.bits))) ||| BitVec.ofInt IntKind.i64.bits (IntKind.i64.wrap c)).toNat)
theorem num_l0 (t : List Int × S_cursor_rest) (hl : t.1.length ≤ 140737488355328) : ∀ (m k i : Nat) (x : Int), m + i = t.1.length → m < k → cursor_Reader_Num.l0 t k x (i : Int) = some (numL (t.1.drop i) x)
  | 0, k + 1, i, x, h, _ => by
    unfold cursor_Reader_Num.l0
    rw [if_neg (by simp; omega), List.drop_of_length_le (by omega)]
    rfl
  | m + 1, k + 1, i, x, h, hk => by
    unfold cursor_Reader_Num.l0
    have hi : i < t.1.length := by omega
    have e : IntKind.i64.wrap ((i : Int) + 1) = ((i + 1 : Nat) : Int) := by rw [IntKind.wrap_i64]; omega
    rw [if_pos (by simpa using hi), if_pos (by omega), e, num_l0 t hl m k (i + 1) _ (by omega) (by omega), List.drop_eq_getElem_cons hi]
    have er : rd t.1 (i : Int) = t.1[i] := by simp [rd, List.getD, hi]
    rw [er]
    rfl
theorem num_bad (k : Nat) (r : S_cursor_Reader) (n : Int) (h : r.rest.bad = true ∨ n < 1 ∨ n > 4 ∨ n > r.rest.left.length) : cursor_Reader_Num.f (k + 1) r n = some (0, ⟨⟨r.rest.left, true⟩⟩) := by
  unfold cursor_Reader_Num.f
  have hl : cursor_Reader_Num.l0 ([], ⟨r.rest.left, true⟩) (k + 1) 0 0 = some 0 := by unfold cursor_Reader_Num.l0; simp
  by_cases hs : n < 1 ∨ n > 4
  · have : (if decide (n < 1) = true then true else decide (n > 4)) = true := by rcases hs with h | h <;> simp [h]
    rw [if_pos this, Option.bind_some, next_bad _ _ (by omega), Option.bind_some, hl]
    rfl
  · have h1 : ¬ n < 1 := fun e => hs (.inl e)
    have h2 : ¬ 4 < n := fun e => hs (.inr e)
    have : ¬ (if decide (n < 1) = true then true else decide (n > 4)) = true := by simp [h1, h2]
    rw [if_neg this, Option.bind_some, next_bad _ _ (by rcases h with h | h | h | h <;> first | exact .inl h | exact absurd h h1 | exact absurd h h2 | exact .inr (.inr h)), Option.bind_some, hl]
    rfl
theorem num_ok (k : Nat) (r : S_cursor_Reader) (n : Int) (hb : r.rest.bad = false) (h1 : 1 ≤ n) (h4 : n ≤ 4) (hn : n ≤ r.rest.left.length) :
    cursor_Reader_Num.f (k + 5) r n = some (numL (r.rest.left.take n.toNat) 0, ⟨⟨r.rest.left.drop n.toNat, false⟩⟩) := by
  unfold cursor_Reader_Num.f
  have e1 : ¬ n < 1 := by omega
  have e4 : ¬ 4 < n := by omega
  rw [if_neg (by simp [e1, e4]), Option.bind_some, next_ok _ _ hb (by omega) hn, Option.bind_some]
  have hl : (r.rest.left.take n.toNat).length ≤ 4 := by simp; omega
  have := num_l0 (r.rest.left.take n.toNat, ⟨r.rest.left.drop n.toNat, false⟩) (by show (r.rest.left.take n.toNat).length ≤ _; omega) (r.rest.left.take n.toNat).length (k + 5) 0 0 rfl (by omega)
  simp only [Int.ofNat_zero, Int.natCast_zero, List.drop_zero] at this
  rw [this]
  rfl
theorem left_f (r : S_cursor_rest) : cursor_rest_Left.f r = some (if r.bad = true then 0 else (r.left.length : Int)) := by
  unfold cursor_rest_Left.f
  split <;> rfl
theorem fdiv_pos (n : Int) (d : Nat) (hn : 0 ≤ n) : Int.fdiv n (2 ^ d) = n / (2 ^ d) := Int.fdiv_eq_ediv_of_nonneg _ (Int.le_of_lt (Int.pow_pos (by decide)))
theorem put_step (n : Int) (hn : 0 ≤ n) (k : Nat) (x : List Int) (i : Nat) (hi : i ≤ 32) (hx : x.length + 1 ≤ 140737488355328) :
    cursor_Put.l0 n (k + 1) x (i : Int) = cursor_Put.l0 n k (x ++ [(n / 2 ^ i) % 256]) ((i : Int) - 8) := by
  rw [cursor_Put.l0]
  have h0 : (0 : Int) ≤ (i : Int) := by omega
  have e : IntKind.i64.wrap ((i : Int) - 8) = (i : Int) - 8 := by rw [IntKind.wrap_i64]; omega
  have hm : min ((i : Int).toNat) IntKind.i64.bits = i := by
    show min i 64 = i
    omega
  rw [if_pos (by simp), if_pos h0, if_pos (by simp; omega), e, hm, fdiv_pos _ _ hn, IntKind.wrap_u8]
theorem put_end (n : Int) (k : Nat) (x : List Int) (i : Int) (hi : i < 0) : cursor_Put.l0 n (k + 1) x i = some x := by
  rw [cursor_Put.l0, if_neg (by simp; omega)]
def putL (n : Int) : Nat → List Int
  | 1 => [n % 256]
  | 2 => [n / 256 % 256, n % 256]
  | 3 => [n / 65536 % 256, n / 256 % 256, n % 256]
  | 4 => [n / 16777216 % 256, n / 65536 % 256, n / 256 % 256, n % 256]
  | _ => []
theorem put_bad1 (k : Nat) (b : List Int) (n s : Int) (h : s < 1 ∨ s > 4) : cursor_Put.f k b n s = some ([], 1) := by
  unfold cursor_Put.f
  have : (if decide (s < 1) = true then true else decide (s > 4)) = true := by simp; omega
  rw [if_pos this]
theorem put_bad5 (k : Nat) (b : List Int) (n s : Int) (h1 : 1 ≤ s) (h4 : s ≤ 4) (h : n < 0 ∨ n ≥ 2 ^ (8 * s.toNat)) : cursor_Put.f k b n s = some ([], 5) := by
  unfold cursor_Put.f
  have : ¬ (if decide (s < 1) = true then true else decide (s > 4)) = true := by simp; omega
  rw [if_neg this]
  have e : IntKind.i64.wrap ((8 : Int) * s) = 8 * s := by rw [IntKind.wrap_i64]; omega
  rw [e]
  by_cases hn : n < 0
  · simp [hn]
  · have hge : n ≥ 2 ^ (8 * s.toNat) := h.resolve_left hn
    have hm : min ((8 * s).toNat) IntKind.i64.bits = 8 * s.toNat := by show min _ 64 = _; omega
    have hne : (Int.fdiv n (2 ^ (8 * s.toNat)) != 0) = true := by
      rw [fdiv_pos _ _ (by omega)]
      have hp : (0 : Int) < 2 ^ (8 * s.toNat) := Int.pow_pos (by decide)
      have : 1 ≤ n / 2 ^ (8 * s.toNat) := (Int.le_ediv_iff_mul_le hp).2 (by omega)
      simp; omega
    rw [if_neg (by simpa using hn), if_pos (by omega), hm, hne]
    rfl
theorem put_ok (k : Nat) (b : List Int) (n : Int) (s : Nat) (hb : b.length ≤ 140737488351232) (h1 : 1 ≤ s) (h4 : s ≤ 4) (hn : 0 ≤ n) (hlt : n < 2 ^ (8 * s)) : cursor_Put.f (k + 5) b n (s : Int) = some (b ++ putL n s, 0) := by
  unfold cursor_Put.f
  have : ¬ (if decide ((s : Int) < 1) = true then true else decide ((s : Int) > 4)) = true := by simp; omega
  rw [if_neg this]
  have e : IntKind.i64.wrap ((8 : Int) * (s : Int)) = 8 * (s : Int) := by rw [IntKind.wrap_i64]; omega
  have e2 : IntKind.i64.wrap ((8 : Int) * IntKind.i64.wrap ((s : Int) - 1)) = 8 * ((s : Int) - 1) := by rw [IntKind.wrap_i64, IntKind.wrap_i64]; omega
  rw [e, e2]
  have hm : min ((8 * (s : Int)).toNat) IntKind.i64.bits = 8 * s := by show min _ 64 = _; omega
  have hz : (Int.fdiv n (2 ^ (8 * s)) != 0) = false := by
    rw [fdiv_pos _ _ hn, Int.ediv_eq_zero_of_lt hn hlt]; rfl
  rw [if_neg (by simpa using hn), if_pos (by omega), hm, hz, Option.bind_some, if_neg (by simp), clone_ok _ (by omega), Option.bind_some]
  rcases (show s = 1 ∨ s = 2 ∨ s = 3 ∨ s = 4 by omega) with rfl | rfl | rfl | rfl
  · have := put_step n hn (k + 4) b 0 (by omega) (by omega)
    rw [show (8 : Int) * ((1 : Nat) - 1) = ((0 : Nat) : Int) from rfl, this, put_end _ _ _ _ (by omega)]
    simp [putL]
  · have s1 := put_step n hn (k + 4) b 8 (by omega) (by omega)
    have s2 := put_step n hn (k + 3) (b ++ [n / 2 ^ 8 % 256]) 0 (by omega) (by simp; omega)
    rw [show (8 : Int) * ((2 : Nat) - 1) = ((8 : Nat) : Int) from rfl, s1, show ((8 : Nat) : Int) - 8 = ((0 : Nat) : Int) from rfl, s2, put_end _ _ _ _ (by omega)]
    simp [putL]
  · have s1 := put_step n hn (k + 4) b 16 (by omega) (by omega)
    have s2 := put_step n hn (k + 3) (b ++ [n / 2 ^ 16 % 256]) 8 (by omega) (by simp; omega)
    have s3 := put_step n hn (k + 2) (b ++ [n / 2 ^ 16 % 256] ++ [n / 2 ^ 8 % 256]) 0 (by omega) (by simp; omega)
    rw [show (8 : Int) * ((3 : Nat) - 1) = ((16 : Nat) : Int) from rfl, s1, show ((16 : Nat) : Int) - 8 = ((8 : Nat) : Int) from rfl, s2, show ((8 : Nat) : Int) - 8 = ((0 : Nat) : Int) from rfl, s3, put_end _ _ _ _ (by omega)]
    simp [putL]
  · have s1 := put_step n hn (k + 4) b 24 (by omega) (by omega)
    have s2 := put_step n hn (k + 3) (b ++ [n / 2 ^ 24 % 256]) 16 (by omega) (by simp; omega)
    have s3 := put_step n hn (k + 2) (b ++ [n / 2 ^ 24 % 256] ++ [n / 2 ^ 16 % 256]) 8 (by omega) (by simp; omega)
    have s4 := put_step n hn (k + 1) (b ++ [n / 2 ^ 24 % 256] ++ [n / 2 ^ 16 % 256] ++ [n / 2 ^ 8 % 256]) 0 (by omega) (by simp; omega)
    rw [show (8 : Int) * ((4 : Nat) - 1) = ((24 : Nat) : Int) from rfl, s1, show ((24 : Nat) : Int) - 8 = ((16 : Nat) : Int) from rfl, s2, show ((16 : Nat) : Int) - 8 = ((8 : Nat) : Int) from rfl, s3, show ((8 : Nat) : Int) - 8 = ((0 : Nat) : Int) from rfl, s4, put_end _ _ _ _ (by omega)]
    simp [putL]
theorem or_step (x c : Int) (hx : 0 ≤ x) (hx2 : x < 72057594037927936) (hc : 0 ≤ c) (hc2 : c ≤ 255) :
    IntKind.i64.wrap (BitVec.ofInt IntKind.i64.bits (IntKind.i64.wrap (x * 2 ^ (min (8 : Int).toNat IntKind.i64.bits))) ||| BitVec.ofInt IntKind.i64.bits (IntKind.i64.wrap c)).toNat = IntKind.i64.wrap (x * 256 + c) := by
  obtain ⟨a, rfl⟩ := Int.eq_ofNat_of_zero_le hx
  obtain ⟨d, rfl⟩ := Int.eq_ofNat_of_zero_le hc
  congr 1
  have e1 : (BitVec.ofInt IntKind.i64.bits (IntKind.i64.wrap ((a : Int) * 2 ^ (min (8 : Int).toNat IntKind.i64.bits)))).toNat = 2 ^ 8 * a := by
    have : ((a : Int) * 2 ^ (min (8 : Int).toNat IntKind.i64.bits)) = (a : Int) * 256 := rfl
    rw [this, IntKind.wrap_i64, BitVec.toNat_ofInt]
    show (_ % ((2 ^ 64 : Nat) : Int)).toNat = _
    omega
  have e2 : (BitVec.ofInt IntKind.i64.bits (IntKind.i64.wrap (d : Int))).toNat = d := by
    rw [IntKind.wrap_i64, BitVec.toNat_ofInt]
    show (_ % ((2 ^ 64 : Nat) : Int)).toNat = _
    omega
  rw [BitVec.toNat_or, e1, e2, ← Nat.two_pow_add_eq_or_of_lt (by omega : d < 2 ^ 8)]
  omega
theorem numL_cons (c : Int) (l : List Int) (x : Int) (hx : 0 ≤ x) (hx2 : x < 4294967296) (hc : 0 ≤ c) (hc2 : c ≤ 255) : numL (c :: l) x = numL l (x * 256 + c) := by
  rw [numL, or_step x c hx (by omega) hc hc2]
  congr 1
  rw [IntKind.wrap_i64]; omega
theorem num_put (n : Int) (s : Nat) (h1 : 1 ≤ s) (h4 : s ≤ 4) (hn : 0 ≤ n) (hlt : n < 2 ^ (8 * s)) : numL (putL n s) 0 = n := by
  rcases (show s = 1 ∨ s = 2 ∨ s = 3 ∨ s = 4 by omega) with rfl | rfl | rfl | rfl <;> simp only [putL]
  · have : n < 256 := hlt
    rw [numL_cons _ _ _ (by omega) (by omega) (by omega) (by omega), numL]; omega
  · have : n < 65536 := hlt
    rw [numL_cons _ _ _ (by omega) (by omega) (by omega) (by omega), numL_cons _ _ _ (by omega) (by omega) (by omega) (by omega), numL]; omega
  · have : n < 16777216 := hlt
    rw [numL_cons _ _ _ (by omega) (by omega) (by omega) (by omega), numL_cons _ _ _ (by omega) (by omega) (by omega) (by omega), numL_cons _ _ _ (by omega) (by omega) (by omega) (by omega), numL]; omega
  · have : n < 4294967296 := hlt
    rw [numL_cons _ _ _ (by omega) (by omega) (by omega) (by omega), numL_cons _ _ _ (by omega) (by omega) (by omega) (by omega), numL_cons _ _ _ (by omega) (by omega) (by omega) (by omega), numL_cons _ _ _ (by omega) (by omega) (by omega) (by omega), numL]; omega
theorem putL_length (n : Int) (s : Nat) (h1 : 1 ≤ s) (h4 : s ≤ 4) : (putL n s).length = s := by
  rcases (show s = 1 ∨ s = 2 ∨ s = 3 ∨ s = 4 by omega) with rfl | rfl | rfl | rfl <;> rfl
theorem put_num (l : List Int) (h1 : 1 ≤ l.length) (h4 : l.length ≤ 4) (hl : ∀ y ∈ l, 0 ≤ y ∧ y ≤ 255) : 0 ≤ numL l 0 ∧ numL l 0 < 2 ^ (8 * l.length) ∧ putL (numL l 0) l.length = l := by
  match l, h1, h4, hl with
  | [a], _, _, hl =>
    have ha := hl a (by simp)
    rw [numL_cons _ _ _ (by omega) (by omega) ha.1 ha.2, numL]
    simp only [putL, List.length_cons, List.length_nil]
    exact ⟨by omega, by omega, by congr 1; omega⟩
  | [a, b], _, _, hl =>
    have ha := hl a (by simp); have hb := hl b (by simp)
    rw [numL_cons _ _ _ (by omega) (by omega) ha.1 ha.2, numL_cons _ _ _ (by omega) (by omega) hb.1 hb.2, numL]
    simp only [putL, List.length_cons, List.length_nil]
    exact ⟨by omega, by omega, by congr 1; omega; congr 1; omega⟩
  | [a, b, c], _, _, hl =>
    have ha := hl a (by simp); have hb := hl b (by simp); have hc := hl c (by simp)
    rw [numL_cons _ _ _ (by omega) (by omega) ha.1 ha.2, numL_cons _ _ _ (by omega) (by omega) hb.1 hb.2, numL_cons _ _ _ (by omega) (by omega) hc.1 hc.2, numL]
    simp only [putL, List.length_cons, List.length_nil]
    exact ⟨by omega, by omega, by congr 1; omega; congr 1; omega; congr 1; omega⟩
  | [a, b, c, d], _, _, hl =>
    have ha := hl a (by simp); have hb := hl b (by simp); have hc := hl c (by simp); have hd := hl d (by simp)
    rw [numL_cons _ _ _ (by omega) (by omega) ha.1 ha.2, numL_cons _ _ _ (by omega) (by omega) hb.1 hb.2, numL_cons _ _ _ (by omega) (by omega) hc.1 hc.2, numL_cons _ _ _ (by omega) (by omega) hd.1 hd.2, numL]
    simp only [putL, List.length_cons, List.length_nil]
    exact ⟨by omega, by omega, by congr 1; omega; congr 1; omega; congr 1; omega; congr 1; omega⟩
theorem w64 (n : Int) (h : -9223372036854775808 ≤ n ∧ n ≤ 9223372036854775807) : IntKind.i64.wrap n = n := by rw [IntKind.wrap_i64]; omega
def isB (l : List Int) : Prop := ∀ y ∈ l, 0 ≤ y ∧ y ≤ 255
theorem okL_isB {l : List Int} (h : okL 1 (okI .u8) l) : isB l := fun y hy => by
  have := h.2 y hy
  have e1 : IntKind.u8.min = 0 := rfl
  have e2 : IntKind.u8.max = 255 := rfl
  unfold okI at this
  omega
theorem okA_isB {l : List Int} {n : Nat} (h : okA .u8 n l) : isB l := fun y hy => by
  have := h.2 y hy
  have e1 : IntKind.u8.min = 0 := rfl
  have e2 : IntKind.u8.max = 255 := rfl
  unfold okI at this
  omega
theorem okL_len {l : List Int} {ok : Int → Prop} (h : okL 1 ok l) : l.length ≤ 140737488351232 := by have := h.1; unfold reachBytes at this; omega
theorem isB.app {a b : List Int} (h : isB a) (h' : isB b) : isB (a ++ b) := fun y hy => (List.mem_append.1 hy).elim (h y) (h' y)
theorem b2s_inj : ∀ {a b : List Int}, isB a → isB b → b2s a = b2s b → a = b
  | [], [], _, _, _ => rfl
  | [], _ :: _, _, _, h => by simp [b2s] at h
  | _ :: _, [], _, _, h => by simp [b2s] at h
  | x :: a, y :: b, ha, hb, h => by
    simp only [b2s, List.map_cons, List.cons.injEq] at h
    have h1 := ha x (by simp); have h2 := hb y (by simp)
    have e := congrArg UInt8.toNat h.1
    rw [UInt8.toNat_ofNat', UInt8.toNat_ofNat'] at e
    rw [b2s_inj (fun z hz => ha z (by simp [hz])) (fun z hz => hb z (by simp [hz])) h.2, show x = y by omega]
theorem b2s_beq {a b : List Int} (ha : isB a) (hb : isB b) : (b2s a == b2s b) = (a == b) := by
  rw [Bool.eq_iff_iff]
  simp only [beq_iff_eq]
  exact ⟨b2s_inj ha hb, fun e => by rw [e]⟩
theorem rd_at (l : List Int) (i : Nat) (hi : i < l.length) : rd l (i : Int) = l[i] := by simp [rd, List.getD, hi]
theorem ar_at (l : List Int) (i : Nat) (hi : i < l.length) : ar l i = l[i] := by simp [ar, List.getD, hi]
theorem arL_self (l : List Int) : arL l.length l = l := by
  apply List.ext_getElem
  · simp [arL]
  · intro i h1 h2
    simp [arL, ar_at l i h2]
/-! trimming zeros -/
theorem tr_nil (k : Nat) : bytes_trimRightByte.l0 0 (k + 1) [] = some [] := by unfold bytes_trimRightByte.l0; simp
theorem tr_snoc (k : Nat) (y : List Int) (c : Int) (h : y.length ≤ 100) : bytes_trimRightByte.l0 0 (k + 1) (y ++ [c]) = if c = 0 then bytes_trimRightByte.l0 0 k y else some (y ++ [c]) := by
  rw [bytes_trimRightByte.l0]
  have hl : (y ++ [c]).length = y.length + 1 := by simp
  have e : IntKind.i64.wrap (((y ++ [c]).length : Int) - 1) = (y.length : Int) := by rw [hl, IntKind.wrap_i64]; omega
  have er : rd (y ++ [c]) (y.length : Int) = c := by rw [rd_at _ _ (by simp)]; simp
  rw [e, er, if_pos (by simp <;> omega), if_pos (by rw [hl]; omega), Option.bind_some]
  by_cases hc : c = 0
  · rw [if_pos (by simpa using hc), if_pos (by rw [hl]; simp <;> omega), if_pos hc]
    simp
  · rw [if_neg (by simpa using hc), if_neg hc]
theorem tr_ok : ∀ (n k : Nat) (x : List Int), x.length = n → n < k → n ≤ 100 → ∃ r, bytes_trimRightByte.l0 0 k x = some r ∧ r.length ≤ x.length ∧ r.all (· == 0) = x.all (· == 0)
  | 0, k, x, h, hk, _ => by
    obtain ⟨k, rfl⟩ : ∃ k', k = k' + 1 := ⟨k - 1, by omega⟩
    obtain rfl := List.eq_nil_of_length_eq_zero h
    exact ⟨[], tr_nil k, Nat.le_refl _, rfl⟩
  | n + 1, k, x, h, hk, hn => by
    obtain ⟨k, rfl⟩ : ∃ k', k = k' + 1 := ⟨k - 1, by omega⟩
    have hne : x ≠ [] := by intro e; subst e; simp at h
    have hx : x = x.dropLast ++ [x.getLast hne] := (List.dropLast_concat_getLast hne).symm
    have hd : x.dropLast.length = n := by simp [h]
    generalize x.dropLast = y at hx hd
    generalize x.getLast hne = c at hx
    subst hx
    rw [tr_snoc k y c (by omega)]
    by_cases hc : c = 0
    · obtain ⟨r, h1, h2, h3⟩ := tr_ok n k y hd (by omega) (by omega)
      exact ⟨r, by rw [if_pos hc]; exact h1, by simp; omega, by rw [h3]; simp [hc]⟩
    · exact ⟨_, if_neg hc, Nat.le_refl _, rfl⟩
theorem tl_nil (k : Nat) : bytes_trimLeftByte.l0 0 (k + 1) [] = some [] := by unfold bytes_trimLeftByte.l0; simp
theorem tl_cons (k : Nat) (y : List Int) (c : Int) : bytes_trimLeftByte.l0 0 (k + 1) (c :: y) = if c = 0 then bytes_trimLeftByte.l0 0 k y else some (c :: y) := by
  rw [bytes_trimLeftByte.l0]
  have er : rd (c :: y) 0 = c := rfl
  rw [er, if_pos (by simp <;> omega), if_pos (by simp <;> omega), Option.bind_some]
  by_cases hc : c = 0
  · rw [if_pos (by simpa using hc), if_pos (by simp <;> omega), if_pos hc]
    simp
  · rw [if_neg (by simpa using hc), if_neg hc]
theorem tl_ok : ∀ (x : List Int) (k : Nat), x.length < k → ∃ r, bytes_trimLeftByte.l0 0 k x = some r ∧ (((r.length : Int) == 0) = x.all (· == 0))
  | [], k, hk => by
    obtain ⟨k, rfl⟩ : ∃ k', k = k' + 1 := ⟨k - 1, by omega⟩
    exact ⟨[], tl_nil k, rfl⟩
  | c :: y, k, hk => by
    obtain ⟨k, rfl⟩ : ∃ k', k = k' + 1 := ⟨k - 1, by omega⟩
    rw [tl_cons]
    by_cases hc : c = 0
    · obtain ⟨r, h1, h2⟩ := tl_ok y k (by simp at hk; omega)
      exact ⟨r, by rw [if_pos hc]; exact h1, by rw [h2]; simp [hc]⟩
    · refine ⟨_, if_neg hc, ?_⟩
      have : (c == 0) = false := by simpa using hc
      simp only [List.all_cons, this, Bool.false_and]
      simp
      omega
theorem trim_ok (k : Nat) (x : List Int) (hx : x.length ≤ 16) : ∃ r, bytes_Trim.f (k + 20) x [0] = some r ∧ (((r.length : Int) == 0) = x.all (· == 0)) := by
  by_cases h0 : x.length = 0
  · obtain rfl := List.eq_nil_of_length_eq_zero h0
    exact ⟨[], rfl, rfl⟩
  · obtain ⟨r, h1, h2, h3⟩ := tr_ok x.length (k + 20) x rfl (by omega) (by omega)
    obtain ⟨r', h4, h5⟩ := tl_ok r (k + 20) (by omega)
    have e : bytes_Trim.f (k + 20) x [0] = (bytes_trimRightByte.f (k + 20) x 0).bind fun t21 => (bytes_trimLeftByte.f (k + 20) t21 0).bind fun t24 => some t24 := by
      unfold bytes_Trim.f
      have hs : (((bstr ([0] : List UInt8)).size : Int) == (1 : Int)) = true := rfl
      have ez : ((([0] : List UInt8).getD (Int.toNat (0 : Int)) 0).toNat : Int) = 0 := rfl
      rw [if_neg (by simpa using h0), if_neg (by rw [bstr_toList, bstr_toList]; decide), if_pos hs, ez, if_pos (by decide), Option.bind_some, if_pos (by decide), if_pos (by decide), if_pos (by decide)]
    rw [e]
    unfold bytes_trimRightByte.f bytes_trimLeftByte.f
    rw [h1, Option.bind_some, Option.bind_some, h4, Option.bind_some]
    by_cases hr : r'.length = 0
    · obtain rfl := List.eq_nil_of_length_eq_zero hr
      exact ⟨[], rfl, by rw [← h3, ← h5]⟩
    · rw [if_neg (by simpa using hr)]
      exact ⟨r', rfl, by rw [h5, h3]⟩
/-! addresses -/
def isSz (n : Int) : Bool := n == 0 || n == 4 || n == 16
def rightB (a : S_api_Addr) : Bool := isSz a.Size && ((arL 16 a.B).drop a.Size.toNat).all (· == 0)
theorem isSz_or {n : Int} (h : isSz n = true) : n = 0 ∨ n = 4 ∨ n = 16 := by
  unfold isSz at h
  simp only [Bool.or_eq_true, beq_iff_eq] at h
  omega
theorem right_go (k : Nat) (a : S_api_Addr) (h : a.Size = 0 ∨ a.Size = 4 ∨ a.Size = 16) : addr_Right.f (k + 20) a = some (((arL 16 a.B).drop a.Size.toNat).all (· == 0)) := by
  have h16 : (arL 16 a.B).length = 16 := arL_length _ _
  have ht : (arL 16 a.B).take (Int.toNat 16) = arL 16 a.B := by rw [List.take_of_length_le]; rw [h16]; exact Nat.le_refl _
  obtain ⟨r, h1, h2⟩ := trim_ok k ((arL 16 a.B).drop a.Size.toNat) (by rw [List.length_drop, h16]; omega)
  have hc : (if (a.Size == (0 : Int)) = true then some (a.Size == (0 : Int) : Bool) else (if (a.Size == (4 : Int)) = true then some (a.Size == (4 : Int) : Bool) else some (a.Size == (16 : Int) : Bool))) = some true := by
    rcases h with h | h | h <;> simp [h]
  unfold addr_Right.f
  rw [ht, hc, Option.bind_some, if_pos rfl, if_pos (by omega), h1, Option.bind_some, h2]
theorem right_ok (k : Nat) (a : S_api_Addr) : addr_Right.f (k + 20) a = some (rightB a) := by
  by_cases h : a.Size = 0 ∨ a.Size = 4 ∨ a.Size = 16
  · rw [right_go k a h]
    have : isSz a.Size = true := by unfold isSz; simp; omega
    unfold rightB
    rw [this, Bool.true_and]
  · have h0 : ¬ a.Size = 0 := by omega
    have h4 : ¬ a.Size = 4 := by omega
    have h16 : ¬ a.Size = 16 := by omega
    unfold addr_Right.f rightB isSz
    simp [h0, h4, h16]
def zeros : List Int := List.replicate 16 0
def mcastB (a : S_api_Addr) : Bool := rightB a && (if a.Size = 4 then Int.fdiv (ar a.B 0) (2 ^ (min (4 : Int).toNat IntKind.u8.bits)) == 14 else a.Size == 16 && ar a.B 0 == 255)
theorem mcast_ok (k : Nat) (a : S_api_Addr) : addr_Multicast.f (k + 20) a = some (mcastB a) := by
  unfold addr_Multicast.f mcastB
  rw [right_ok, Option.bind_some]
  cases rightB a
  · rfl
  · simp only [Bool.not_true, Bool.false_eq_true, if_false, Bool.true_and]
    by_cases h4 : a.Size = 4
    · simp [h4]
    · by_cases h16 : a.Size = 16
      · simp [h16]
      · simp [h4, h16]
theorem of_ok (b : List Int) : addr_Of.f b = some (if isSz b.length = true then (⟨b.length, arC 16 zeros b⟩, 0) else (⟨0, zeros⟩, 1)) := by
  have hc : ∀ n : Int, (if (n == (0 : Int)) = true then some (n == (0 : Int) : Bool) else (if (n == (4 : Int)) = true then some (n == (4 : Int) : Bool) else some (n == (16 : Int) : Bool))) = some (isSz n) := by
    intro n
    unfold isSz
    cases h : (n == 0) <;> cases h' : (n == 4) <;> simp
  unfold addr_Of.f
  rw [hc, Option.bind_some]
  cases isSz (b.length : Int) <;> rfl
def rootL (a : S_api_Addr) : List Int := (arL 16 a.B).take a.Size.toNat
theorem addrbytes_ok (k : Nat) (a : S_api_Addr) (h : rightB a = true) : addr_Bytes.f (k + 20) a = some (rootL a) := by
  unfold addr_Bytes.f
  have hs : a.Size = 0 ∨ a.Size = 4 ∨ a.Size = 16 := isSz_or (by unfold rightB at h; simp only [Bool.and_eq_true] at h; exact h.1)
  rw [right_ok, h, Option.bind_some, if_neg (by simp), if_pos (by omega), clone_ok _ (by simp [arL_length]; omega), Option.bind_some]
  rfl
theorem rootL_length (a : S_api_Addr) (h : rightB a = true) : ((rootL a).length : Int) = a.Size := by
  have hs : a.Size = 0 ∨ a.Size = 4 ∨ a.Size = 16 := isSz_or (by unfold rightB at h; simp only [Bool.and_eq_true] at h; exact h.1)
  unfold rootL
  rw [List.length_take, arL_length]
  omega
theorem root_back (a : S_api_Addr) (h : rightB a = true) (hl : a.B.length = 16) : (⟨((rootL a).length : Int), arC 16 zeros (rootL a)⟩ : S_api_Addr) = a := by
  have hs : a.Size = 0 ∨ a.Size = 4 ∨ a.Size = 16 := isSz_or (by unfold rightB at h; simp only [Bool.and_eq_true] at h; exact h.1)
  have hz : ((arL 16 a.B).drop a.Size.toNat).all (· == 0) = true := by unfold rightB at h; simp only [Bool.and_eq_true] at h; exact h.2
  have hB : arL 16 a.B = a.B := by rw [← hl]; exact arL_self _
  rw [hB] at hz
  have hr := rootL_length a h
  obtain ⟨S, B⟩ := a
  simp only [S_api_Addr.mk.injEq] at *
  refine ⟨hr, ?_⟩
  apply List.ext_getElem
  · rw [arC_length, hl]
  · intro i h1 h2
    have hi : i < 16 := by rw [arC_length] at h1; exact h1
    rw [← ar_at _ i h1, ar_arC _ _ _ _ hi]
    have hrl : (rootL ⟨S, B⟩).length = S.toNat := by omega
    by_cases hlt : i < S.toNat
    · rw [if_pos (by omega)]
      have : rootL ⟨S, B⟩ = B.take S.toNat := by unfold rootL; simp only; rw [hB]
      rw [this, ar_at _ _ (by simp <;> omega)]
      simp
    · rw [if_neg (by omega)]
      have hm : B[i] ∈ B.drop S.toNat := by
        have e : (B.drop S.toNat)[i - S.toNat]? = some B[i] := by rw [List.getElem?_drop, show S.toNat + (i - S.toNat) = i by omega, List.getElem?_eq_getElem h2]
        exact List.mem_of_getElem? e
      have hz' := List.all_eq_true.1 hz B[i] hm
      have : B[i] = 0 := by simpa using hz'
      rw [this]
      unfold zeros ar
      rw [List.getD_eq_getElem?_getD, List.getElem?_replicate, if_pos hi]
      rfl
theorem rootL_isB (a : S_api_Addr) (h : isB a.B) (hl : a.B.length = 16) : isB (rootL a) := by
  have hB : arL 16 a.B = a.B := by rw [← hl]; exact arL_self _
  intro y hy
  unfold rootL at hy
  rw [hB] at hy
  exact h y (List.mem_of_mem_take hy)
/-! tunnels -/
def rightT (t : S_api_Tunnel) : Bool :=
  rightB t.Root && (decide (0 ≤ t.Label) && (decide (t.Label ≤ 1048575) &&
  (if t.Kind = 0 then IntKind.i64.wrap (t.Root.Size + (t.Id.length : Int)) == 0
   else if t.Kind = 1 then t.Root.Size == 4 && (t.Id.length : Int) == 6
   else if t.Kind = 2 ∨ t.Kind = 7 then decide (t.Root.Size > 0) && decide ((t.Id.length : Int) ≤ 64)
   else if t.Kind = 3 ∨ t.Kind = 4 ∨ t.Kind = 5 then isSz t.Id.length && ((t.Id.length : Int) == t.Root.Size && mcastB ⟨t.Id.length, arC 16 zeros t.Id⟩)
   else if t.Kind = 6 then decide (t.Root.Size > 0) && (t.Id.length : Int) == 0
   else false)))
theorem iteB (p q : Bool) : (if p = true then some q else some false) = some (p && q) := by cases p <;> rfl
theorem pright_ok (k : Nat) (t : S_api_Tunnel) : pmsi_Right.f (k + 20) t = some (rightT t) := by
  unfold pmsi_Right.f rightT
  rw [right_ok, Option.bind_some]
  cases rightB t.Root
  · rfl
  · simp only [Bool.not_true, Bool.false_eq_true, if_false, Bool.true_and]
    by_cases hl : t.Label < 0
    · have : ¬ 0 ≤ t.Label := by omega
      simp [hl, this]
    · have hl' : 0 ≤ t.Label := by omega
      by_cases hm : t.Label > 1048575
      · have : ¬ t.Label ≤ 1048575 := by omega
        simp [hl, hl', hm, this]
      · have hm' : t.Label ≤ 1048575 := by omega
        simp only [hl, hl', hm, hm', decide_false, decide_true, Bool.false_eq_true, if_false, Option.bind_some, Bool.true_and]
        by_cases k0 : t.Kind = 0
        · simp [k0]
        by_cases k1 : t.Kind = 1
        · rw [iteB]; simp [k1]
        by_cases k27 : t.Kind = 2 ∨ t.Kind = 7
        · rw [iteB, iteB]; rcases k27 with h | h <;> simp [h]
        by_cases k345 : t.Kind = 3 ∨ t.Kind = 4 ∨ t.Kind = 5
        · rw [of_ok]
          have e2 : ¬ t.Kind = 2 := by omega
          have e7 : ¬ t.Kind = 7 := by omega
          simp only [k0, k1, k27, k345, if_true, if_false, e2, e7, beq_iff_eq, Bool.false_eq_true, Option.bind_some, beq_eq_false_iff_ne.2 e2, beq_eq_false_iff_ne.2 e7]
          have e : (if (t.Kind == 3) = true then some (t.Kind == 3) else if (t.Kind == 4) = true then some (t.Kind == 4) else some (t.Kind == 5)) = some true := by
            rcases k345 with h | h | h <;> simp [h]
          simp only [beq_iff_eq] at e
          rw [e, Option.bind_some, if_pos rfl]
          cases hz : isSz (t.Id.length : Int)
          · simp
          · simp only [if_true, mcast_ok]
            by_cases hs : (t.Id.length : Int) = t.Root.Size
            · simp [hs]
            · simp [hs]
        · have h2 : ¬ t.Kind = 2 := by omega
          have h7 : ¬ t.Kind = 7 := by omega
          have h3 : ¬ t.Kind = 3 := by omega
          have h4 : ¬ t.Kind = 4 := by omega
          have h5 : ¬ t.Kind = 5 := by omega
          by_cases k6 : t.Kind = 6
          · rw [iteB, iteB, iteB]; simp [k6]
          · simp [k0, k1, h2, h7, h3, h4, h5, k6]
theorem right_cases (t : S_api_Tunnel) (h : rightT t = true) (hI : t.Id.length ≤ 140737488351232) : rightB t.Root = true ∧ 0 ≤ t.Label ∧ t.Label ≤ 1048575 ∧
    ((t.Kind = 0 ∧ t.Root.Size = 0 ∧ t.Id = []) ∨ (t.Kind = 1 ∧ t.Root.Size = 4 ∧ t.Id.length = 6) ∨ ((t.Kind = 2 ∨ t.Kind = 7) ∧ 0 < t.Root.Size ∧ t.Id.length ≤ 64) ∨
     ((t.Kind = 3 ∨ t.Kind = 4 ∨ t.Kind = 5) ∧ (t.Id.length : Int) = t.Root.Size) ∨ (t.Kind = 6 ∧ t.Id = [])) := by
  unfold rightT at h
  simp only [Bool.and_eq_true, decide_eq_true_eq] at h
  obtain ⟨h1, h2, h3, h4⟩ := h
  have hs : t.Root.Size = 0 ∨ t.Root.Size = 4 ∨ t.Root.Size = 16 := isSz_or (by unfold rightB at h1; simp only [Bool.and_eq_true] at h1; exact h1.1)
  refine ⟨h1, h2, h3, ?_⟩
  split at h4
  · rename_i hk
    rw [w64 _ (by omega)] at h4
    have h5 : t.Root.Size + (t.Id.length : Int) = 0 := by simpa using h4
    exact .inl ⟨hk, by omega, List.eq_nil_of_length_eq_zero (by omega)⟩
  · split at h4
    · rename_i hk
      simp only [Bool.and_eq_true, beq_iff_eq] at h4
      exact .inr (.inl ⟨hk, h4.1, by omega⟩)
    · split at h4
      · rename_i hk
        simp only [Bool.and_eq_true, decide_eq_true_eq] at h4
        exact .inr (.inr (.inl ⟨hk, h4.1, by omega⟩))
      · split at h4
        · rename_i hk
          simp only [Bool.and_eq_true, beq_iff_eq] at h4
          exact .inr (.inr (.inr (.inl ⟨hk, h4.2.1⟩)))
        · split at h4
          · rename_i hk
            simp only [Bool.and_eq_true, beq_iff_eq] at h4
            exact .inr (.inr (.inr (.inr ⟨hk, List.eq_nil_of_length_eq_zero (by omega)⟩)))
          · cases h4
def famL (a : S_api_Addr) : Int := if a.Size = 4 then 1 else 2
def identL (t : S_api_Tunnel) : List Int :=
  if t.Kind = 1 then ((t.Id.take 4 ++ [0, 0]) ++ t.Id.drop 4) ++ rootL t.Root
  else if t.Kind = 7 then (([7, 0, famL t.Root, IntKind.u8.wrap t.Root.Size] ++ rootL t.Root) ++ putL t.Id.length 2) ++ t.Id
  else if t.Kind = 2 then (([6, 0, famL t.Root, IntKind.u8.wrap t.Root.Size] ++ rootL t.Root) ++ putL t.Id.length 2) ++ t.Id
  else rootL t.Root ++ t.Id
theorem fam_ok (a : S_api_Addr) : pmsi_family.f a = some (famL a) := by
  unfold pmsi_family.f famL
  by_cases h : a.Size = 4 <;> simp [h]
theorem rootL_le (a : S_api_Addr) : (rootL a).length ≤ 16 := by unfold rootL; rw [List.length_take, arL_length]; omega
theorem ident_ok (k : Nat) (t : S_api_Tunnel) (h : rightT t = true) (hI : t.Id.length ≤ 140737488351232) : pmsi_identifier.f (k + 20) t = some (identL t) := by
  obtain ⟨h1, h2, h3, h4⟩ := right_cases t h hI
  have hr := rootL_le t.Root
  unfold pmsi_identifier.f identL
  rw [addrbytes_ok k _ h1, Option.bind_some]
  by_cases k1 : t.Kind = 1
  · have hid : t.Id.length = 6 := by
      rcases h4 with h4 | h4 | h4 | h4 | h4 <;> omega
    have e1 : t.Id.take (Int.toNat (t.Id.length : Int)) = t.Id := by simp
    rw [if_pos (by simpa using k1), if_pos k1, if_pos (by omega), clone_ok _ (by simp <;> omega), Option.bind_some, if_pos (by simp <;> omega), if_pos (by omega), e1, if_pos (by simp <;> omega), if_pos (by simp <;> omega)]
    rfl
  · by_cases k7 : t.Kind = 7
    · have hid : t.Id.length ≤ 64 := by rcases h4 with h4 | h4 | h4 | h4 | h4 <;> omega
      have hp := putL_length (t.Id.length : Int) 2 (by omega) (by omega)
      rw [if_neg (by simpa using k1), if_pos (by simpa using k7), if_neg k1, if_pos k7, fam_ok, Option.bind_some, if_pos (by simp <;> omega),
        show (2 : Int) = ((2 : Nat) : Int) from rfl, put_ok (k + 15) _ _ 2 (by simp <;> omega) (by omega) (by omega) (by omega) (by omega), Option.bind_some, if_pos (by simp [hp]; omega)]
    · by_cases k2 : t.Kind = 2
      · have hid : t.Id.length ≤ 64 := by rcases h4 with h4 | h4 | h4 | h4 | h4 <;> omega
        have hp := putL_length (t.Id.length : Int) 2 (by omega) (by omega)
        rw [if_neg (by simpa using k1), if_neg (by simpa using k7), if_pos (by simpa using k2), if_neg k1, if_neg k7, if_pos k2, fam_ok, Option.bind_some, if_pos (by simp <;> omega),
          show (2 : Int) = ((2 : Nat) : Int) from rfl, put_ok (k + 15) _ _ 2 (by simp <;> omega) (by omega) (by omega) (by omega) (by omega), Option.bind_some, if_pos (by simp [hp]; omega)]
      · rw [if_neg (by simpa using k1), if_neg (by simpa using k7), if_neg (by simpa using k2), if_neg k1, if_neg k7, if_neg k2, if_pos (by omega)]
def leafL (b : Bool) : Int := if b = true then 1 else 0
def bytesT (t : S_api_Tunnel) : List Int := ([leafL t.Leaf, IntKind.u8.wrap t.Kind] ++ putL (16 * t.Label) 3) ++ identL t
theorem identL_le (t : S_api_Tunnel) (h : rightT t = true) (hI : t.Id.length ≤ 140737488351232) : (identL t).length ≤ t.Id.length + 22 := by
  have hr := rootL_le t.Root
  have hp : ∀ n : Int, (putL n 2).length = 2 := fun n => rfl
  unfold identL
  split
  · simp; omega
  · split
    · simp [hp]; omega
    · split
      · simp [hp]; omega
      · simp; omega
theorem label_ok (k : Nat) (l : Int) (h0 : 0 ≤ l) (h1 : l ≤ 1048575) : label_Bytes.f (k + 20) l false = some (putL (16 * l) 3, 0) := by
  unfold label_Bytes.f
  have e : IntKind.i64.wrap (l * 2 ^ (min (4 : Int).toNat IntKind.i64.bits)) = 16 * l := by
    have : (2 : Int) ^ (min (4 : Int).toNat IntKind.i64.bits) = 16 := rfl
    rw [this, w64 _ (by omega)]; omega
  rw [if_neg (by simp <;> omega), e]
  simp only [Bool.false_eq_true, if_false, Option.bind_some]
  rw [show (3 : Int) = ((3 : Nat) : Int) from rfl, put_ok (k + 15) [] _ 3 (by simp) (by omega) (by omega) (by omega) (by omega)]
  rfl
theorem pbytes_ok (k : Nat) (t : S_api_Tunnel) (hI : t.Id.length ≤ 140737488351232) : pmsi_Bytes.f (k + 20) t = some (if rightT t = true then (bytesT t, 0) else ([], 1)) := by
  unfold pmsi_Bytes.f
  rw [pright_ok, Option.bind_some]
  cases h : rightT t
  · simp
  · obtain ⟨h1, h2, h3, _⟩ := right_cases t h hI
    have hl := identL_le t h hI
    have hp : (putL (16 * t.Label) 3).length = 3 := rfl
    simp only [Bool.not_true, Bool.false_eq_true, if_false, if_true]
    have e : (if t.Leaf = true then some ((1 : Int) : Int) else some ((0 : Int) : Int)) = some (leafL t.Leaf) := by unfold leafL; split <;> rfl
    rw [e, Option.bind_some, label_ok k _ h2 h3, Option.bind_some, if_pos (by simp [hp]), ident_ok k t h hI, Option.bind_some, if_pos (by simp [hp]; omega)]
    rfl
theorem equal_f (a b : List Int) : bytes_Equal.f a b = some (b2s a == b2s b) := by unfold bytes_Equal.f; rw [bstr_toList, bstr_toList]
theorem same_ok (a b : S_api_Tunnel) : pmsi_Same.f a b = some (a.Kind == b.Kind && ((a.Root.Size == b.Root.Size) && ((eqA 16 a.Root.B b.Root.B) && true)) && (b2s a.Id == b2s b.Id)) := by
  unfold pmsi_Same.f
  rw [equal_f]
  cases (a.Kind == b.Kind) <;> cases ((a.Root.Size == b.Root.Size) && ((eqA 16 a.Root.B b.Root.B) && true)) <;> simp
theorem take_app (l rest : List Int) (n : Int) (hn : (l.length : Int) = n) (hl : l.length + rest.length ≤ 140737488355328) : cursor_Reader_Take.f ⟨⟨l ++ rest, false⟩⟩ n = some (l, ⟨⟨rest, false⟩⟩) := by
  subst hn
  rw [take_ok _ _ (by simp; omega) rfl (by omega) (by simp; omega)]
  simp
theorem num1 (k : Nat) (c : Int) (rest : List Int) (h0 : 0 ≤ c) (h1 : c ≤ 255) : cursor_Reader_Num.f (k + 5) ⟨⟨c :: rest, false⟩⟩ 1 = some (c, ⟨⟨rest, false⟩⟩) := by
  rw [num_ok k _ 1 rfl (by omega) (by omega) (by simp; omega)]
  show some (numL [c] 0, _) = _
  rw [numL_cons _ _ _ (by omega) (by omega) h0 h1, numL]
  simp
theorem num2 (k : Nat) (n : Int) (rest : List Int) (h0 : 0 ≤ n) (h1 : n < 65536) : cursor_Reader_Num.f (k + 5) ⟨⟨putL n 2 ++ rest, false⟩⟩ 2 = some (n, ⟨⟨rest, false⟩⟩) := by
  have hp : (putL n 2).length = 2 := rfl
  rw [num_ok k _ 2 rfl (by omega) (by omega) (by simp [hp]; omega)]
  show some (numL (putL n 2) 0, _) = _
  rw [num_put n 2 (by omega) (by omega) h0 (by omega)]
  rfl
theorem numL3 (L : Int) (h0 : 0 ≤ L) (h1 : L ≤ 1048575) : numL (putL (16 * L) 3) 0 = 16 * L := num_put _ 3 (by omega) (by omega) (by omega) (by omega)
theorem and15 (n : Nat) (h : n < 9223372036854775808) : (BitVec.ofInt IntKind.i64.bits (n : Int) &&& BitVec.ofInt IntKind.i64.bits (15 : Int)).toNat = n % 16 := by
  have e1 : (BitVec.ofInt IntKind.i64.bits (n : Int)).toNat = n := by
    rw [BitVec.toNat_ofInt]
    show (_ % ((2 ^ 64 : Nat) : Int)).toNat = _
    omega
  have e2 : (BitVec.ofInt IntKind.i64.bits (15 : Int)).toNat = 2 ^ 4 - 1 := rfl
  rw [BitVec.toNat_and, e1, e2, Nat.and_two_pow_sub_one_eq_mod]
theorem labelread_ok (k : Nat) (L : Int) (h0 : 0 ≤ L) (h1 : L ≤ 1048575) : ∃ f e, label_Read.f (k + 20) (putL (16 * L) 3) = some (L, f, e) := by
  unfold label_Read.f cursor_Open.f
  have hp : (putL (16 * L) 3).length = 3 := rfl
  rw [clone_ok _ (by rw [hp]; omega)]
  try simp only [Option.bind_some]
  rw [num_ok (k + 15) _ 3 rfl (by omega) (by omega) (by simp [hp]), Option.bind_some]
  have ht : (putL (16 * L) 3).take (Int.toNat 3) = putL (16 * L) 3 := rfl
  simp only [ht, numL3 L h0 h1]
  obtain ⟨m, hm⟩ := Int.eq_ofNat_of_zero_le (show 0 ≤ 16 * L by omega)
  have ha : (BitVec.ofInt IntKind.i64.bits (16 * L) &&& BitVec.ofInt IntKind.i64.bits (15 : Int)).toNat = 0 := by
    rw [hm, and15 m (by omega)]; omega
  have hf : Int.fdiv (16 * L) (2 ^ (min (4 : Int).toNat IntKind.i64.bits)) = L := by
    have : (2 : Int) ^ (min (4 : Int).toNat IntKind.i64.bits) = 16 := rfl
    rw [this, Int.fdiv_eq_ediv_of_nonneg _ (by omega)]; omega
  rw [ha, hf]
  refine ⟨_, _, if_neg ?_⟩
  rw [hp]
  decide
def zeroT : S_api_Tunnel := ⟨false, 0, 0, ⟨0, List.replicate 16 0⟩, []⟩
def tailP (k : Nat) (t : S_api_Tunnel) (rr : S_cursor_rest) (b : List Int) : Option (S_api_Tunnel × Int) :=
  (pmsi_Bytes.f k t).bind fun t59 => ((cursor_rest_Bad.f rr).bind fun t70 => (if t70 = true then some (true : Bool) else (if (t59.2 != (0 : Int)) = true then some (true : Bool) else (bytes_Equal.f t59.1 b).bind fun t73 => some (!t73 : Bool)))).bind fun s62 => (if s62 = true then some (zeroT, (4 : Int)) else some (t, (0 : Int)))
theorem tail_same (k : Nat) (t : S_api_Tunnel) (rr : S_cursor_rest) (h : rightT t = true) (hI : t.Id.length ≤ 140737488351232) (hr : rr.bad = false) : tailP (k + 20) t rr (bytesT t) = some (t, 0) := by
  unfold tailP cursor_rest_Bad.f
  rw [pbytes_ok k t hI, if_pos h, hr]
  simp only [Option.bind_some, equal_f]
  simp
theorem tail_any (k : Nat) (t : S_api_Tunnel) (rr : S_cursor_rest) (b : List Int) (hI : t.Id.length ≤ 140737488351232) :
    ∃ u e, tailP (k + 20) t rr b = some (u, e) ∧ ((e = 4 ∧ u = zeroT) ∨ (e = 0 ∧ u.Id.length ≤ 140737488351232 ∧ ∃ x, pmsi_Bytes.f (k + 20) u = some (x, 0) ∧ b2s x = b2s b)) := by
  unfold tailP cursor_rest_Bad.f
  have hp := pbytes_ok k t hI
  cases hr : rr.bad
  · cases h : rightT t
    · rw [h] at hp
      rw [hp]
      exact ⟨zeroT, 4, rfl, .inl ⟨rfl, rfl⟩⟩
    · rw [if_pos h] at hp
      rw [hp]
      simp only [Option.bind_some, equal_f]
      cases hb : (b2s (bytesT t) == b2s b)
      · exact ⟨zeroT, 4, rfl, .inl ⟨rfl, rfl⟩⟩
      · exact ⟨t, 0, rfl, .inr ⟨rfl, hI, _, hp, eq_of_beq hb⟩⟩
  · rw [hp]
    exact ⟨zeroT, 4, by simp, .inl ⟨rfl, rfl⟩⟩
theorem leaf_back (b : Bool) : (leafL b == 1) = b := by cases b <;> rfl
theorem of_root (a : S_api_Addr) (h : rightB a = true) (hl : a.B.length = 16) : addr_Of.f (rootL a) = some (a, 0) := by
  have hs : isSz ((rootL a).length : Int) = true := by
    rw [rootL_length a h]; unfold rightB at h; simp only [Bool.and_eq_true] at h; exact h.1
  rw [of_ok, if_pos hs, root_back a h hl]
theorem root_ok (a : S_api_Addr) (rest : List Int) (n : Int) (hn : n = a.Size) (h : rightB a = true) (hl : a.B.length = 16) (hr : rest.length ≤ 140737488351232) : pmsi_root.f ⟨⟨rootL a ++ rest, false⟩⟩ n = some (a, ⟨⟨rest, false⟩⟩) := by
  unfold pmsi_root.f
  have := rootL_le a
  rw [take_app _ _ n (by rw [hn]; exact rootL_length a h) (by omega), Option.bind_some]
  simp only
  rw [of_root a h hl, Option.bind_some]
theorem parse_bytes (k : Nat) (t : S_api_Tunnel) (h : rightT t = true) (hI : t.Id.length ≤ 140737488351000) (hB : t.Root.B.length = 16) : pmsi_Parse.f (k + 20) (bytesT t) = some (t, 0) := by
  obtain ⟨h1, h2, h3, h4⟩ := right_cases t h (by omega)
  have hil := identL_le t h (by omega)
  have hrl := rootL_le t.Root
  have hrs := rootL_length t.Root h1
  have hsz : t.Root.Size = 0 ∨ t.Root.Size = 4 ∨ t.Root.Size = 16 := isSz_or (by unfold rightB at h1; simp only [Bool.and_eq_true] at h1; exact h1.1)
  have hK : 0 ≤ t.Kind ∧ t.Kind ≤ 7 := by omega
  have hKw : IntKind.u8.wrap t.Kind = t.Kind := by rw [IntKind.wrap_u8]; omega
  have hSw : IntKind.u8.wrap t.Root.Size = t.Root.Size := by rw [IntKind.wrap_u8]; omega
  have hp3 : (putL (16 * t.Label) 3).length = 3 := rfl
  have hb : bytesT t = leafL t.Leaf :: t.Kind :: (putL (16 * t.Label) 3 ++ identL t) := by unfold bytesT; rw [hKw]; rfl
  have hlen : (bytesT t).length ≤ 140737488351100 := by rw [hb]; simp [hp3]; omega
  have hlf : 0 ≤ leafL t.Leaf ∧ leafL t.Leaf ≤ 255 := by unfold leafL; split <;> omega
  obtain ⟨f, e, hlr⟩ := labelread_ok k t.Label h2 h3
  have ht : (⟨leafL t.Leaf == 1, t.Kind, t.Label, t.Root, t.Id⟩ : S_api_Tunnel) = t := by rw [leaf_back]
  have hT : ∀ rr : S_cursor_rest, rr.bad = false → tailP (k + 20) ⟨leafL t.Leaf == 1, t.Kind, t.Label, t.Root, t.Id⟩ rr (bytesT t) = some (t, 0) := fun rr hr => by
    rw [ht]; exact tail_same k t rr h (by omega) hr
  unfold pmsi_Parse.f cursor_Open.f
  rw [clone_ok _ (by omega)]
  try simp only [Option.bind_some]
  rw [show cursor_Reader_Num.f (k + 20) ⟨⟨bytesT t, false⟩⟩ 1 = some (leafL t.Leaf, ⟨⟨t.Kind :: (putL (16 * t.Label) 3 ++ identL t), false⟩⟩) from by rw [hb]; exact num1 (k + 15) _ _ hlf.1 hlf.2]
  try simp only [Option.bind_some]
  rw [num1 (k + 15) _ _ (by omega) (by omega)]
  try simp only [Option.bind_some]
  rw [take_app _ _ 3 (by rw [hp3]; rfl) (by rw [hp3]; omega)]
  try simp only [Option.bind_some]
  rw [hlr]
  try simp only [Option.bind_some]
  rcases h4 with ⟨hk, hs, hid⟩ | ⟨hk, hs, hid⟩ | ⟨hk, hs, hid⟩ | ⟨hk, hid⟩ | ⟨hk, hid⟩
  · -- none
    have e : identL t = rootL t.Root ++ [] := by unfold identL; rw [if_neg (by omega), if_neg (by omega), if_neg (by omega), hid]
    rw [if_neg (by simp [hk]), show (if (t.Kind == (2 : Int)) = true then some (t.Kind == (2 : Int)) else some (t.Kind == (7 : Int))) = some false from by simp [hk]]
    try simp only [Option.bind_some, Bool.false_eq_true, if_false]
    rw [show (if (t.Kind == (3 : Int)) = true then some (t.Kind == (3 : Int)) else if (t.Kind == (4 : Int)) = true then some (t.Kind == (4 : Int)) else some (t.Kind == (5 : Int))) = some false from by simp [hk]]
    try simp only [Option.bind_some, Bool.false_eq_true, if_false]
    rw [left_f, e]
    try simp only [Bool.false_eq_true, if_false, Option.bind_some]
    rw [root_ok t.Root [] _ (by simp; omega) h1 hB (by simp)]
    try simp only [Option.bind_some]
    have := hT ⟨[], false⟩ rfl
    rw [hid] at this
    exact this
  · -- rsvp
    have e : identL t = t.Id.take 4 ++ ([0, 0] ++ (t.Id.drop 4 ++ (rootL t.Root ++ []))) := by unfold identL; rw [if_pos hk]; simp
    rw [if_pos (by simp [hk]), e, take_app _ _ 4 (by simp; omega) (by simp; omega)]
    try simp only [Option.bind_some]
    rw [take_app _ _ 2 (by simp) (by simp; omega)]
    try simp only [Option.bind_some]
    rw [take_app _ _ 2 (by simp; omega) (by simp; omega)]
    try simp only [Option.bind_some]
    rw [if_pos (by simp; omega)]
    try simp only [Option.bind_some]
    rw [root_ok t.Root [] _ (by omega) h1 hB (by simp)]
    simp only [Option.bind_some, List.take_append_drop]
    exact hT ⟨[], false⟩ rfl
  · -- mldp, mesh
    have e : ∃ c, (c = 6 ∨ c = 7) ∧ identL t = [c, 0, famL t.Root] ++ (t.Root.Size :: (rootL t.Root ++ (putL t.Id.length 2 ++ (t.Id ++ [])))) := by
      unfold identL
      rcases hk with hk | hk
      · exact ⟨6, .inl rfl, by rw [if_neg (by omega), if_neg (by omega), if_pos hk, hSw]; simp⟩
      · exact ⟨7, .inr rfl, by rw [if_neg (by omega), if_pos hk, hSw]; simp⟩
    obtain ⟨c, hc, e⟩ := e
    have hp2 : (putL (t.Id.length : Int) 2).length = 2 := rfl
    rw [if_neg (by simp; omega), show (if (t.Kind == (2 : Int)) = true then some (t.Kind == (2 : Int)) else some (t.Kind == (7 : Int))) = some true from by rcases hk with hk | hk <;> simp [hk]]
    try simp only [Option.bind_some, if_true]
    rw [e, take_app _ _ 3 (by simp) (by simp [hp2]; omega)]
    try simp only [Option.bind_some]
    rw [num1 (k + 15) _ _ (by omega) (by omega)]
    try simp only [Option.bind_some]
    rw [root_ok t.Root _ _ rfl h1 hB (by simp [hp2]; omega)]
    try simp only [Option.bind_some]
    rw [num2 (k + 15) _ _ (by omega) (by omega)]
    try simp only [Option.bind_some]
    rw [take_app _ _ _ rfl (by simp; omega)]
    try simp only [Option.bind_some]
    exact hT ⟨[], false⟩ rfl
  · -- ssm, sm, bidir
    have e : identL t = rootL t.Root ++ t.Id := by unfold identL; rw [if_neg (by omega), if_neg (by omega), if_neg (by omega)]
    have hleft : IntKind.i64.wrap (Int.tdiv ((rootL t.Root ++ t.Id).length : Int) 2) = t.Root.Size := by
      rw [List.length_append]
      have : (((rootL t.Root).length + t.Id.length : Nat) : Int) = 2 * t.Root.Size := by omega
      rw [this, Int.mul_tdiv_cancel_left _ (by decide), w64 _ (by omega)]
    rw [if_neg (by simp; omega), show (if (t.Kind == (2 : Int)) = true then some (t.Kind == (2 : Int)) else some (t.Kind == (7 : Int))) = some false from by rcases hk with hk | hk | hk <;> simp [hk]]
    try simp only [Option.bind_some, Bool.false_eq_true, if_false]
    rw [show (if (t.Kind == (3 : Int)) = true then some (t.Kind == (3 : Int)) else if (t.Kind == (4 : Int)) = true then some (t.Kind == (4 : Int)) else some (t.Kind == (5 : Int))) = some true from by rcases hk with hk | hk | hk <;> simp [hk]]
    try simp only [Option.bind_some, if_true]
    rw [left_f, e]
    try simp only [Bool.false_eq_true, if_false, Option.bind_some]
    rw [hleft, root_ok t.Root _ _ rfl h1 hB (by omega)]
    try simp only [Option.bind_some]
    rw [left_f]
    try simp only [Bool.false_eq_true, if_false, Option.bind_some]
    rw [show (⟨⟨t.Id, false⟩⟩ : S_cursor_Reader) = ⟨⟨t.Id ++ [], false⟩⟩ from by simp, take_app _ _ _ rfl (by simp; omega)]
    try simp only [Option.bind_some]
    exact hT ⟨[], false⟩ rfl
  · -- copies
    have e : identL t = rootL t.Root ++ [] := by unfold identL; rw [if_neg (by omega), if_neg (by omega), if_neg (by omega), hid]
    rw [if_neg (by simp [hk]), show (if (t.Kind == (2 : Int)) = true then some (t.Kind == (2 : Int)) else some (t.Kind == (7 : Int))) = some false from by simp [hk]]
    try simp only [Option.bind_some, Bool.false_eq_true, if_false]
    rw [show (if (t.Kind == (3 : Int)) = true then some (t.Kind == (3 : Int)) else if (t.Kind == (4 : Int)) = true then some (t.Kind == (4 : Int)) else some (t.Kind == (5 : Int))) = some false from by simp [hk]]
    try simp only [Option.bind_some, Bool.false_eq_true, if_false]
    rw [left_f, e]
    try simp only [Bool.false_eq_true, if_false, Option.bind_some]
    rw [root_ok t.Root [] _ (by simp; omega) h1 hB (by simp)]
    try simp only [Option.bind_some]
    have := hT ⟨[], false⟩ rfl
    rw [hid] at this
    exact this
def T1 : S_api_Tunnel := ⟨true, 2, 0, ⟨4, [10, 0, 0, 1, 0, 0, 0, 0, 0, 0, 0, 0, 0, 0, 0, 0]⟩, [1, 2]⟩
def T3 : S_api_Tunnel := ⟨false, 3, 0, ⟨4, [10, 0, 0, 1, 0, 0, 0, 0, 0, 0, 0, 0, 0, 0, 0, 0]⟩, [10, 0, 0, 2]⟩
theorem small06 (k : Nat) : vinerylaw06_small.f (k + 20) = some true := by
  have e1 : pmsi_Bytes.f (k + 20) T1 = some (bytesT T1, 0) := by rw [pbytes_ok k T1 (by decide), if_pos (by decide)]
  have e2 : pmsi_Parse.f (k + 20) (bytesT T1) = some (T1, 0) := parse_bytes k T1 (by decide) (by decide) rfl
  have e3 : pmsi_Bytes.f (k + 20) T3 = some ([], 1) := by rw [pbytes_ok k T3 (by decide), if_neg (by decide)]
  unfold T1 at e1 e2
  unfold T3 at e3
  unfold vinerylaw06_small.f
  rw [e1]
  try simp only [Option.bind_some]
  rw [e2]
  try simp only [Option.bind_some]
  rw [e3]
  simp only [Option.bind_some, bstr_toList, same_ok]
  decide
theorem refbytes_step (n : Int) (hn : 0 ≤ n) (k : Nat) (x : List Int) (i : Nat) (hi : i ≤ 4) (hx : x.length + 1 ≤ 140737488355328) :
    vineryref01_Bytes.l0 n (k + 1) x (i : Int) = vineryref01_Bytes.l0 n k (x ++ [(n / 2 ^ (8 * i)) % 256]) ((i : Int) - 1) := by
  rw [vineryref01_Bytes.l0]
  have e : IntKind.i64.wrap ((i : Int) - 1) = (i : Int) - 1 := by rw [IntKind.wrap_i64]; omega
  have e2 : IntKind.i64.wrap ((8 : Int) * (i : Int)) = ((8 * i : Nat) : Int) := by rw [IntKind.wrap_i64]; omega
  have hm : min (Int.toNat ((8 * i : Nat) : Int)) IntKind.i64.bits = 8 * i := by
    show min (8 * i) 64 = _
    omega
  rw [if_pos (by simp), e2, if_pos (by omega), if_pos (by simp; omega), e, hm, fdiv_pos _ _ hn, IntKind.wrap_u8]
theorem refbytes_end (n : Int) (k : Nat) (x : List Int) (i : Int) (hi : i < 0) : vineryref01_Bytes.l0 n (k + 1) x i = some x := by
  rw [vineryref01_Bytes.l0, if_neg (by simp; omega)]
theorem refbytes_ok (k : Nat) (n : Int) (s : Nat) (h1 : 1 ≤ s) (h4 : s ≤ 4) (hn : 0 ≤ n) : vineryref01_Bytes.f (k + 5) n (s : Int) = some (putL n s) := by
  unfold vineryref01_Bytes.f
  have e2 : IntKind.i64.wrap ((s : Int) - 1) = ((s - 1 : Nat) : Int) := by rw [IntKind.wrap_i64]; omega
  rw [e2]
  rcases (show s = 1 ∨ s = 2 ∨ s = 3 ∨ s = 4 by omega) with rfl | rfl | rfl | rfl
  · rw [refbytes_step n hn _ _ 0 (by omega) (by simp), refbytes_end _ _ _ _ (by omega)]
    simp [putL]
  · rw [refbytes_step n hn _ _ 1 (by omega) (by simp), show ((1 : Nat) : Int) - 1 = ((0 : Nat) : Int) from rfl, refbytes_step n hn _ _ 0 (by omega) (by simp), refbytes_end _ _ _ _ (by omega)]
    simp [putL]
  · rw [refbytes_step n hn _ _ 2 (by omega) (by simp), show ((2 : Nat) : Int) - 1 = ((1 : Nat) : Int) from rfl, refbytes_step n hn _ _ 1 (by omega) (by simp), show ((1 : Nat) : Int) - 1 = ((0 : Nat) : Int) from rfl, refbytes_step n hn _ _ 0 (by omega) (by simp), refbytes_end _ _ _ _ (by omega)]
    simp [putL]
  · rw [refbytes_step n hn _ _ 3 (by omega) (by simp), show ((3 : Nat) : Int) - 1 = ((2 : Nat) : Int) from rfl, refbytes_step n hn _ _ 2 (by omega) (by simp), show ((2 : Nat) : Int) - 1 = ((1 : Nat) : Int) from rfl, refbytes_step n hn _ _ 1 (by omega) (by simp), show ((1 : Nat) : Int) - 1 = ((0 : Nat) : Int) from rfl, refbytes_step n hn _ _ 0 (by omega) (by simp), refbytes_end _ _ _ _ (by omega)]
    simp [putL]
/-! the document's answers -/
theorem tail_all_step (x : List Int) (n : Nat) (hn : n < 16) : ((arL 16 x).drop n).all (· == 0) = ((ar x n == 0) && ((arL 16 x).drop (n + 1)).all (· == 0)) := by
  have hl : n < (arL 16 x).length := by rw [arL_length]; exact hn
  rw [List.drop_eq_getElem_cons hl, List.all_cons]
  congr 2
  simp [arL]
theorem rright_l0 (a : S_api_Addr) : ∀ (m k n : Nat), n + m = 16 → m < k → (vineryref02_Right.l0 a k (n : Int)).bind (fun s14 => match s14 with | .inl r => some r | .inr _ => some ((true : Bool))) = some (((arL 16 a.B).drop n).all (· == 0))
  | 0, k, n, h, hk => by
    obtain ⟨k, rfl⟩ : ∃ k', k = k' + 1 := ⟨k - 1, by omega⟩
    rw [vineryref02_Right.l0, if_neg (by simp; omega), List.drop_of_length_le (by rw [arL_length]; omega)]
    rfl
  | m + 1, k, n, h, hk => by
    obtain ⟨k, rfl⟩ : ∃ k', k = k' + 1 := ⟨k - 1, by omega⟩
    have e : IntKind.i64.wrap ((n : Int) + 1) = ((n + 1 : Nat) : Int) := by rw [w64 _ (by omega)]; omega
    rw [vineryref02_Right.l0, if_pos (by simp; omega), if_pos (by omega), tail_all_step _ _ (by omega), Int.toNat_natCast, e]
    by_cases h0 : ar a.B n = 0
    · rw [if_neg (by simp [h0]), rright_l0 a m k (n + 1) (by omega) (by omega)]
      simp [h0]
    · rw [if_pos (by simp [h0])]
      simp [h0]
theorem rright_ok (k : Nat) (a : S_api_Addr) : vineryref02_Right.f (k + 20) a = some (rightB a) := by
  unfold vineryref02_Right.f
  by_cases h : a.Size = 0 ∨ a.Size = 4 ∨ a.Size = 16
  · have hc : ((if (a.Size != (0 : Int)) = true then (if (a.Size != (4 : Int)) = true then some (a.Size != (16 : Int) : Bool) else some (false : Bool)) else some (false : Bool))) = some false := by
      rcases h with h | h | h <;> simp [h]
    have hs : isSz a.Size = true := by unfold isSz; simp; omega
    rw [hc, Option.bind_some, if_neg (by simp)]
    have hn : ((a.Size.toNat : Nat) : Int) = a.Size := by omega
    have := rright_l0 a (16 - a.Size.toNat) (k + 20) a.Size.toNat (by omega) (by omega)
    rw [hn] at this
    unfold rightB
    rw [hs, Bool.true_and]
    exact this
  · have h0 : ¬ a.Size = 0 := by omega
    have h4 : ¬ a.Size = 4 := by omega
    have h16 : ¬ a.Size = 16 := by omega
    unfold rightB isSz
    simp [h0, h4, h16]
theorem ar_isB {x : List Int} (h : isB x) (i : Nat) : 0 ≤ ar x i ∧ ar x i ≤ 255 := by
  by_cases hi : i < x.length
  · rw [ar_at x i hi]; exact h _ (by simp)
  · have : ar x i = 0 := by simp [ar, List.getD, List.getElem?_eq_none (Nat.le_of_not_lt hi)]
    omega
theorem rmcast_ok (k : Nat) (a : S_api_Addr) (h : isB a.B) : vineryref02_Multicast.f (k + 20) a = some (mcastB a) := by
  unfold vineryref02_Multicast.f mcastB
  rw [rright_ok, Option.bind_some]
  have hb := ar_isB h 0
  have hp : (2 : Int) ^ (min (4 : Int).toNat IntKind.u8.bits) = 16 := rfl
  rw [hp, Int.fdiv_eq_ediv_of_nonneg _ (by omega)]
  cases rightB a
  · rfl
  · by_cases h4 : a.Size = 4
    · have h16 : ¬ a.Size = 16 := by omega
      by_cases g1 : 224 ≤ ar a.B 0
      · by_cases g2 : ar a.B 0 < 240
        · have : ar a.B 0 / 16 = 14 := by omega
          simp [h4, g1, g2, this]
        · have : ¬ ar a.B 0 / 16 = 14 := by omega
          simp [h4, g1, g2, this]
      · have : ¬ ar a.B 0 / 16 = 14 := by omega
        simp [h4, g1, this]
    · by_cases h16 : a.Size = 16
      · simp [h16]
      · simp [h4, h16]
theorem arL_arC (n : Nat) (x xs : List Int) : arL n (arC n x xs) = arC n x xs := by
  have := arL_self (arC n x xs)
  rw [arC_length] at this
  exact this
theorem arL_zeros : arL 16 zeros = zeros := by decide
theorem arC_take_succ (b : List Int) (i : Nat) (hi : i < b.length) (h16 : b.length ≤ 16) : (arL 16 (arC 16 zeros (b.take i))).set i (rd b (i : Int)) = arC 16 zeros (b.take (i + 1)) := by
  rw [arL_arC]
  apply List.ext_getElem
  · rw [List.length_set, arC_length, arC_length]
  · intro j h1 h2
    have hj : j < 16 := by rw [arC_length] at h2; exact h2
    have hl : (b.take i).length = i := by simp; omega
    have hl' : (b.take (i + 1)).length = i + 1 := by simp; omega
    rw [List.getElem_set]
    have e2 := ar_at _ j h2
    rw [ar_arC _ _ _ _ hj, hl'] at e2
    by_cases hij : i = j
    · subst hij
      rw [if_pos rfl, ← e2, if_pos (by omega), rd_at b i hi, ar_at _ _ (by omega)]
      simp
    · rw [if_neg hij]
      have h3 : j < (arC 16 zeros (b.take i)).length := by rw [arC_length]; exact hj
      have e1 := ar_at _ j h3
      rw [ar_arC _ _ _ _ hj, hl] at e1
      rw [← e1, ← e2]
      by_cases hlt : j < i
      · rw [if_pos hlt, if_pos (by omega), ar_at _ _ (by omega), ar_at _ _ (by omega)]
        simp
      · rw [if_neg hlt, if_neg (by omega)]
theorem rof_l0 (b : List Int) (h16 : b.length ≤ 16) : ∀ (m k i : Nat), i + m = b.length → m < k → vineryref02_Of.l0 b k (i : Int) (arC 16 zeros (b.take i)) = some (arC 16 zeros b)
  | 0, k, i, h, hk => by
    obtain ⟨k, rfl⟩ : ∃ k', k = k' + 1 := ⟨k - 1, by omega⟩
    rw [vineryref02_Of.l0, if_neg (by simp; omega), List.take_of_length_le (by omega)]
  | m + 1, k, i, h, hk => by
    obtain ⟨k, rfl⟩ : ∃ k', k = k' + 1 := ⟨k - 1, by omega⟩
    have e : IntKind.i64.wrap ((i : Int) + 1) = ((i + 1 : Nat) : Int) := by rw [w64 _ (by omega)]; omega
    rw [vineryref02_Of.l0, if_pos (by simp; omega), if_pos (by omega), if_pos (by omega), Int.toNat_natCast, e, arC_take_succ b i (by omega) h16, rof_l0 b h16 m k (i + 1) (by omega) (by omega)]
theorem arC_zeros_nil : arC 16 zeros [] = zeros := by decide
theorem rof_ok (k : Nat) (b : List Int) : vineryref02_Of.f (k + 20) b = some (if isSz b.length = true then (⟨b.length, arC 16 zeros b⟩, 0) else (⟨0, zeros⟩, 1)) := by
  unfold vineryref02_Of.f
  have hc : ∀ n : Int, (if (if (n != (0 : Int)) = true then (n != (4 : Int)) else false) = true then (n != (16 : Int)) else false) = !isSz n := by
    intro n
    unfold isSz
    cases h : (n == 0) <;> cases h' : (n == 4) <;> cases h'' : (n == 16) <;> simp_all
  rw [hc]
  cases h : isSz (b.length : Int)
  · rfl
  · have hl := isSz_or h
    rw [if_neg (by simp)]
    have := rof_l0 b (by omega) b.length (k + 20) 0 (by omega) (by omega)
    rw [List.take_zero, arC_zeros_nil] at this
    rw [show ((0 : Nat) : Int) = 0 from rfl] at this
    rw [show (List.replicate 16 (0 : Int)) = zeros from rfl, this, Option.bind_some]
    rfl
theorem arC_isB {b : List Int} (h : isB b) : isB (arC 16 zeros b) := by
  intro y hy
  unfold arC at hy
  rcases List.mem_append.1 hy with hy | hy
  · exact h y (List.mem_of_mem_take hy)
  · have := List.mem_of_mem_drop hy
    rw [arL_zeros] at this
    have : y = 0 := by simpa [zeros] using this
    omega
theorem rpright_ok (k : Nat) (t : S_api_Tunnel) (hI : t.Id.length ≤ 140737488351232) (hB : isB t.Id) : vineryref06_Right.f (k + 20) t = some (rightT t) := by
  unfold vineryref06_Right.f rightT
  rw [rright_ok, Option.bind_some]
  cases hr : rightB t.Root
  · rfl
  · have hs : t.Root.Size = 0 ∨ t.Root.Size = 4 ∨ t.Root.Size = 16 := isSz_or (by unfold rightB at hr; simp only [Bool.and_eq_true] at hr; exact hr.1)
    simp only [Bool.not_true, Bool.false_eq_true, if_false, Bool.true_and]
    by_cases hl : t.Label < 0
    · have : ¬ 0 ≤ t.Label := by omega
      simp [hl, this]
    · have hl' : 0 ≤ t.Label := by omega
      by_cases hm : t.Label > 1048575
      · have : ¬ t.Label ≤ 1048575 := by omega
        simp [hl, hl', hm, this]
      · have hm' : t.Label ≤ 1048575 := by omega
        simp only [hl, hl', hm, hm', decide_false, decide_true, Bool.false_eq_true, if_false, Option.bind_some, Bool.true_and]
        by_cases k0 : t.Kind = 0
        · rw [w64 _ (by omega)]
          by_cases hz : t.Root.Size = 0
          · simp [k0, hz]
          · have h1 : t.Root.Size > 0 := by omega
            have h2 : ¬ t.Root.Size + (t.Id.length : Int) = 0 := by omega
            simp [k0, h1, h2]
        by_cases k1 : t.Kind = 1
        · by_cases h4 : t.Root.Size = 4 <;> simp [k1, h4]
        by_cases k27 : t.Kind = 2 ∨ t.Kind = 7
        · by_cases h0 : t.Root.Size > 0 <;> rcases k27 with h | h <;> simp [h, h0]
        by_cases k345 : t.Kind = 3 ∨ t.Kind = 4 ∨ t.Kind = 5
        · rw [rof_ok]
          have e2 : ¬ t.Kind = 2 := by omega
          have e7 : ¬ t.Kind = 7 := by omega
          simp only [k0, k1, k27, k345, if_true, if_false, e2, e7, beq_iff_eq, Bool.false_eq_true, Option.bind_some, beq_eq_false_iff_ne.2 e2, beq_eq_false_iff_ne.2 e7]
          have e : (if (t.Kind == 3) = true then some (t.Kind == 3) else if (t.Kind == 4) = true then some (t.Kind == 4) else some (t.Kind == 5)) = some true := by
            rcases k345 with h | h | h <;> simp [h]
          simp only [beq_iff_eq] at e
          rw [e, Option.bind_some, if_pos rfl]
          by_cases hlen : (t.Id.length : Int) = t.Root.Size
          · have hsz : isSz (t.Id.length : Int) = true := by rw [hlen]; unfold isSz; simp; omega
            rw [hsz]
            simp only [if_true]
            rw [rmcast_ok k _ (arC_isB hB)]
            by_cases h0 : t.Root.Size > 0
            · simp [h0, hlen]
            · have hz : t.Root.Size = 0 := by omega
              have : mcastB ⟨t.Id.length, arC 16 zeros t.Id⟩ = false := by unfold mcastB; rw [hlen, hz]; simp
              simp [this, h0]
          · by_cases h0 : t.Root.Size > 0 <;> simp [h0, hlen]
        · have h2 : ¬ t.Kind = 2 := by omega
          have h7 : ¬ t.Kind = 7 := by omega
          have h3 : ¬ t.Kind = 3 := by omega
          have h4 : ¬ t.Kind = 4 := by omega
          have h5 : ¬ t.Kind = 5 := by omega
          by_cases k6 : t.Kind = 6
          · by_cases h0 : t.Root.Size > 0 <;> simp [k6, h0]
          · simp [k0, k1, h2, h7, h3, h4, h5, k6]
theorem raddrbytes_ok (k : Nat) (a : S_api_Addr) (h : rightB a = true) : vineryref02_Bytes.f (k + 20) a = some (rootL a) := by
  unfold vineryref02_Bytes.f
  have hs : a.Size = 0 ∨ a.Size = 4 ∨ a.Size = 16 := isSz_or (by unfold rightB at h; simp only [Bool.and_eq_true] at h; exact h.1)
  rw [rright_ok, h, Option.bind_some, if_neg (by simp), if_pos (by omega), if_pos (by simp [arL_length]; omega)]
  rfl
theorem rlabel_ok (k : Nat) (l : Int) (h0 : 0 ≤ l) (h1 : l ≤ 1048575) : vineryref05_Bytes.f (k + 20) l false = some (putL (16 * l) 3, 0) := by
  unfold vineryref05_Bytes.f
  rw [if_neg (by simp; omega), w64 (16 * l) (by omega)]
  simp only [Bool.false_eq_true, if_false, Option.bind_some]
  rw [show (3 : Int) = ((3 : Nat) : Int) from rfl, refbytes_ok (k + 15) _ 3 (by omega) (by omega) (by omega)]
  rfl
theorem rbytes_ok (k : Nat) (t : S_api_Tunnel) (hI : t.Id.length ≤ 140737488351232) (hB : isB t.Id) : vineryref06_Bytes.f (k + 20) t = some (if rightT t = true then (bytesT t, 0) else ([], 1)) := by
  unfold vineryref06_Bytes.f
  rw [rpright_ok k t hI hB, Option.bind_some]
  cases h : rightT t
  · simp
  · obtain ⟨h1, h2, h3, h4⟩ := right_cases t h hI
    have hs : t.Root.Size = 0 ∨ t.Root.Size = 4 ∨ t.Root.Size = 16 := isSz_or (by unfold rightB at h1; simp only [Bool.and_eq_true] at h1; exact h1.1)
    have hr := rootL_le t.Root
    have hp : (putL (16 * t.Label) 3).length = 3 := rfl
    have hp2 : (putL (t.Id.length : Int) 2).length = 2 := rfl
    simp only [Bool.not_true, Bool.false_eq_true, if_false, if_true]
    rw [rlabel_ok k _ h2 h3, Option.bind_some, if_pos (by simp [hp])]
    have e : (if t.Leaf = true then (if 0 ≤ (0 : Int) ∧ (0 : Int) < ((([(0 : Int), IntKind.u8.wrap t.Kind] : List Int) ++ putL (16 * t.Label) 3).length : Int) then some (((([(0 : Int), IntKind.u8.wrap t.Kind] : List Int) ++ putL (16 * t.Label) 3).set (Int.toNat (0 : Int)) (1 : Int)) : List Int) else none) else some ((([(0 : Int), IntKind.u8.wrap t.Kind] : List Int) ++ putL (16 * t.Label) 3) : List Int)) = some ([leafL t.Leaf, IntKind.u8.wrap t.Kind] ++ putL (16 * t.Label) 3) := by
      cases t.Leaf
      · rfl
      · rw [if_pos rfl, if_pos (by simp [hp])]; rfl
    simp only at e ⊢
    rw [e, Option.bind_some, raddrbytes_ok k _ h1, Option.bind_some]
    unfold bytesT identL
    by_cases k1 : t.Kind = 1
    · have hid : t.Id.length = 6 := by rcases h4 with h4 | h4 | h4 | h4 | h4 <;> omega
      have e1 : t.Id.take (Int.toNat (t.Id.length : Int)) = t.Id := by simp
      rw [if_pos (by simpa using k1), if_pos k1, if_pos (by omega), if_pos (by simp [hp]; omega), if_pos (by simp [hp]; omega), if_pos (by omega), e1, if_pos (by simp [hp]; omega), if_pos (by simp [hp]; omega)]
      simp
    · rw [if_neg (by simpa using k1), if_neg k1]
      by_cases k27 : t.Kind = 2 ∨ t.Kind = 7
      · have hid : t.Id.length ≤ 64 ∧ 0 < t.Root.Size := by
          rcases h4 with h4 | h4 | h4 | h4 | h4
          · omega
          · omega
          · exact ⟨h4.2.2, h4.2.1⟩
          · omega
          · omega
        have hf : (if (t.Root.Size == (16 : Int)) = true then some ((2 : Int) : Int) else some ((1 : Int) : Int)) = some (famL t.Root) := by
          unfold famL
          rcases hs with h | h | h
          · omega
          · simp [h]
          · simp [h]
        rw [show (if (t.Kind == (2 : Int)) = true then some (t.Kind == (2 : Int)) else some (t.Kind == (7 : Int))) = some true from by rcases k27 with h | h <;> simp [h]]
        simp only [Option.bind_some, if_true]
        rw [hf]
        rcases k27 with k2 | k7
        · rw [if_neg (by simp [k2]), if_neg (by omega), if_pos k2]
          simp only [Option.bind_some]
          rw [if_pos (by simp [hp]), if_pos (by simp [hp]; omega), show (2 : Int) = ((2 : Nat) : Int) from rfl, refbytes_ok (k + 15) _ 2 (by omega) (by omega) (by omega), Option.bind_some, if_pos (by simp [hp, hp2]; omega), if_pos (by simp [hp, hp2]; omega)]
          simp
        · rw [if_pos (by simp [k7]), if_pos k7]
          simp only [Option.bind_some]
          rw [if_pos (by simp [hp]), if_pos (by simp [hp]; omega), show (2 : Int) = ((2 : Nat) : Int) from rfl, refbytes_ok (k + 15) _ 2 (by omega) (by omega) (by omega), Option.bind_some, if_pos (by simp [hp, hp2]; omega), if_pos (by simp [hp, hp2]; omega)]
          simp
      · have h2' : ¬ t.Kind = 2 := fun h => k27 (.inl h)
        have h7' : ¬ t.Kind = 7 := fun h => k27 (.inr h)
        rw [show (if (t.Kind == (2 : Int)) = true then some (t.Kind == (2 : Int)) else some (t.Kind == (7 : Int))) = some false from by simp [h2', h7']]
        simp only [Option.bind_some, Bool.false_eq_true, if_false]
        rw [if_pos (by simp [hp]; omega), if_pos (by simp [hp]; omega), if_neg h7', if_neg h2']
        simp
/-! the document's reader -/
theorem rtake_at (B l rest : List Int) (A n : Int) (hA : 0 ≤ A) (hB : B.length ≤ 140737488351232) (h : B.drop A.toNat = l ++ rest) (hAB : A ≤ B.length) (hn : (l.length : Int) = n) : vineryref01_Reader_Take.f ⟨B, A, false⟩ n = some (l, ⟨B, A + n, false⟩) ∧ B.drop (A + n).toNat = rest ∧ A + n ≤ B.length := by
  have hlen := congrArg List.length h
  rw [List.length_drop, List.length_append] at hlen
  have e1 : IntKind.i64.wrap ((B.length : Int) - A) = (B.length : Int) - A := w64 _ (by omega)
  have e2 : IntKind.i64.wrap (A + n) = A + n := w64 _ (by omega)
  have hd : (B.take (A + n).toNat).drop A.toNat = l := by
    rw [List.drop_take, h, show (A + n).toNat - A.toNat = l.length by omega]
    simp
  refine ⟨?_, ?_, by omega⟩
  · unfold vineryref01_Reader_Take.f
    rw [if_neg (by simp), e1, e2, if_neg (by simp; omega)]
    simp only [Option.bind_some]
    rw [if_neg (by simp; omega), if_pos (by omega), hd, if_pos (by simp; omega)]
    rfl
  · rw [show (A + n).toNat = A.toNat + l.length by omega, ← List.drop_drop, h]
    simp
theorem rtake_tot (r : S_vineryref01_Reader) (n : Int) (hA : 0 ≤ r.At ∧ r.At ≤ r.B.length) (hB : r.B.length ≤ 140737488351232) (hb : isB r.B) (hn : n ≤ 9223372036854775807) :
    ∃ l A b, vineryref01_Reader_Take.f r n = some (l, ⟨r.B, A, b⟩) ∧ 0 ≤ A ∧ A ≤ r.B.length ∧ isB l ∧ l.length ≤ r.B.length ∧ l.length ≤ n.toNat := by
  unfold vineryref01_Reader_Take.f
  by_cases h : r.No = true ∨ n < 0 ∨ n > IntKind.i64.wrap ((r.B.length : Int) - r.At)
  · refine ⟨[], r.At, true, ?_, hA.1, hA.2, fun y hy => by simp at hy, by simp, by simp⟩
    have hc : ((if r.No = true then some (true : Bool) else (if (decide (n < (0 : Int))) = true then some (true : Bool) else some (decide (n > (IntKind.i64.wrap ((r.B.length : Int) - r.At))) : Bool)))) = some true := by
      rcases h with h | h | h
      · simp [h]
      · cases r.No <;> simp [h]
      · cases r.No
        · by_cases h0 : n < 0 <;> simp [h0]; exact h
        · rfl
    rw [hc, Option.bind_some, if_pos rfl]
  · have h1 : r.No = false := by cases hh : r.No <;> simp_all
    have h2 : ¬ n < 0 := fun e => h (.inr (.inl e))
    have h3 : ¬ n > IntKind.i64.wrap ((r.B.length : Int) - r.At) := fun e => h (.inr (.inr e))
    rw [w64 _ (by omega)] at h3
    have e2 : IntKind.i64.wrap (r.At + n) = r.At + n := w64 _ (by omega)
    refine ⟨(r.B.take (r.At + n).toNat).drop r.At.toNat, r.At + n, false, ?_, by omega, by omega, fun y hy => hb y (List.mem_of_mem_take (List.mem_of_mem_drop hy)), by simp; omega, by simp; omega⟩
    rw [h1, w64 ((r.B.length : Int) - r.At) (by omega), e2]
    simp only [Bool.false_eq_true, if_false]
    rw [if_neg (by simpa using h2)]
    simp only [Option.bind_some]
    rw [if_neg (by simpa using h3), if_pos (by omega), if_pos (by simp; omega)]
    rfl
theorem rbig_l0 (l : List Int) (hl : l.length ≤ 140737488351232) : ∀ (m k i : Nat) (x : Int), i + m = l.length → m < k → x ≤ 9223372036854775807 → ∃ v, vineryref01_Big.l0 l k x (i : Int) = some v ∧ v ≤ 9223372036854775807
  | 0, k, i, x, h, hk, hx => by
    obtain ⟨k, rfl⟩ : ∃ k', k = k' + 1 := ⟨k - 1, by omega⟩
    exact ⟨x, by rw [vineryref01_Big.l0, if_neg (by simp; omega)], hx⟩
  | m + 1, k, i, x, h, hk, hx => by
    obtain ⟨k, rfl⟩ : ∃ k', k = k' + 1 := ⟨k - 1, by omega⟩
    have e : IntKind.i64.wrap ((i : Int) + 1) = ((i + 1 : Nat) : Int) := by rw [w64 _ (by omega)]; omega
    rw [vineryref01_Big.l0, if_pos (by simp; omega), if_pos (by omega), e]
    exact rbig_l0 l hl m k (i + 1) _ (by omega) (by omega) (by rw [IntKind.wrap_i64]; omega)
theorem rbig_tot (k : Nat) (l : List Int) (hl : l.length ≤ 10) : ∃ v, vineryref01_Big.f (k + 20) l = some v ∧ v ≤ 9223372036854775807 := by
  obtain ⟨v, h, hv⟩ := rbig_l0 l (by omega) l.length (k + 20) 0 0 (by omega) (by omega) (by omega)
  unfold vineryref01_Big.f
  rw [show ((0 : Nat) : Int) = 0 from rfl] at h
  exact ⟨v, by rw [h]; rfl, hv⟩
theorem rbig_step (l : List Int) (k i : Nat) (x : Int) (hi : i < l.length) (hx : 0 ≤ x ∧ x < 4294967296) (hb : 0 ≤ l[i] ∧ l[i] ≤ 255) (hi2 : i < 100) : vineryref01_Big.l0 l (k + 1) x (i : Int) = vineryref01_Big.l0 l k (x * 256 + l[i]) ((i + 1 : Nat) : Int) := by
  have e : IntKind.i64.wrap ((i : Int) + 1) = ((i + 1 : Nat) : Int) := by rw [w64 _ (by omega)]; omega
  rw [vineryref01_Big.l0, if_pos (by simp; omega), if_pos (by omega), e, rd_at l i hi, w64 (x * 256) (by omega), w64 l[i] (by omega), w64 (x * 256 + l[i]) (by omega)]
theorem rbig_end (l : List Int) (k i : Nat) (x : Int) (hi : l.length ≤ i) : vineryref01_Big.l0 l (k + 1) x (i : Int) = some x := by
  rw [vineryref01_Big.l0, if_neg (by simp; omega)]
theorem rbig1 (k : Nat) (c : Int) (h0 : 0 ≤ c) (h1 : c ≤ 255) : vineryref01_Big.f (k + 20) [c] = some c := by
  unfold vineryref01_Big.f
  rw [show (0 : Int) = ((0 : Nat) : Int) from rfl, rbig_step [c] (k + 19) 0 _ (by simp) (by simp) ⟨h0, h1⟩ (by omega), rbig_end _ _ _ _ (by simp)]
  simp
theorem rbig3 (k : Nat) (n : Int) (h0 : 0 ≤ n) (h1 : n < 16777216) : vineryref01_Big.f (k + 20) (putL n 3) = some n := by
  have hl : (putL n 3).length = 3 := rfl
  have g0 : (putL n 3)[0]'(by rw [hl]; omega) = n / 65536 % 256 := rfl
  have g1 : (putL n 3)[1]'(by rw [hl]; omega) = n / 256 % 256 := rfl
  have g2 : (putL n 3)[2]'(by rw [hl]; omega) = n % 256 := rfl
  unfold vineryref01_Big.f
  rw [show (0 : Int) = ((0 : Nat) : Int) from rfl, rbig_step _ (k + 19) 0 _ (by rw [hl]; omega) (by simp) (by rw [g0]; omega) (by omega), rbig_step _ (k + 18) (0 + 1) _ (by rw [hl]; omega) (by rw [g0]; omega) (by simp only [Nat.zero_add]; rw [g1]; omega) (by omega)]
  simp only [Nat.zero_add, g0, g1]
  rw [show (1 + 1 : Nat) = 2 from rfl, rbig_step _ (k + 17) 2 _ (by rw [hl]; omega) (by omega) (by rw [g2]; omega) (by omega), rbig_end _ _ _ _ (by rw [hl]; omega), g2]
  simp only [Option.bind_some]
  congr 1
  omega
theorem rnum_tot (k : Nat) (r : S_vineryref01_Reader) (n : Int) (hA : 0 ≤ r.At ∧ r.At ≤ r.B.length) (hB : r.B.length ≤ 140737488351232) (hb : isB r.B) : ∃ v A b, vineryref01_Reader_Num.f (k + 20) r n = some (v, ⟨r.B, A, b⟩) ∧ 0 ≤ A ∧ A ≤ r.B.length ∧ v ≤ 9223372036854775807 := by
  unfold vineryref01_Reader_Num.f
  by_cases h : n < 1 ∨ n > 4
  · exact ⟨0, r.At, true, by rw [if_pos (by simp; omega)], hA.1, hA.2, by omega⟩
  · obtain ⟨l, A, b, e, h1, h2, _, _, h5⟩ := rtake_tot r n hA hB hb (by omega)
    obtain ⟨v, e2, hv⟩ := rbig_tot k l (by omega)
    rw [if_neg (by simp; omega), e]
    simp only [Option.bind_some]
    rw [e2]
    exact ⟨v, A, b, rfl, h1, h2, hv⟩
theorem rnum1_at (k : Nat) (B rest : List Int) (A c : Int) (hA : 0 ≤ A) (hB : B.length ≤ 140737488351232) (h : B.drop A.toNat = c :: rest) (hAB : A ≤ B.length) (h0 : 0 ≤ c) (h1 : c ≤ 255) : vineryref01_Reader_Num.f (k + 20) ⟨B, A, false⟩ 1 = some (c, ⟨B, A + 1, false⟩) ∧ B.drop (A + 1).toNat = rest ∧ A + 1 ≤ B.length := by
  obtain ⟨e, e2, e3⟩ := rtake_at B [c] rest A 1 hA hB h hAB rfl
  refine ⟨?_, e2, e3⟩
  unfold vineryref01_Reader_Num.f
  rw [if_neg (by decide), e]
  simp only [Option.bind_some]
  rw [rbig1 k c h0 h1]
  rfl
theorem rlread_tot (k : Nat) (l : List Int) (hl : l.length ≤ 10) : ∃ x, vineryref05_Read.f (k + 20) l = some x := by
  unfold vineryref05_Read.f
  obtain ⟨v, h, _⟩ := rbig_tot k l hl
  rw [h]
  simp only [Option.bind_some]
  exact ite_some_tot _ _
theorem rlread_ok (k : Nat) (L : Int) (h0 : 0 ≤ L) (h1 : L ≤ 1048575) : ∃ f e, vineryref05_Read.f (k + 20) (putL (16 * L) 3) = some (L, f, e) := by
  unfold vineryref05_Read.f
  have hl : (putL (16 * L) 3).length = 3 := rfl
  rw [rbig3 k _ (by omega) (by omega)]
  simp only [Option.bind_some]
  have e1 : Int.tmod (16 * L) 16 = 0 := Int.mul_tmod_right 16 L
  have e2 : Int.tdiv (16 * L) 16 = L := Int.mul_tdiv_cancel_left L (by decide)
  rw [e1, e2, w64 _ (by omega)]
  exact ⟨_, _, if_neg (by rw [hl]; decide)⟩
theorem rleft_f (B : List Int) (A : Int) (b : Bool) (hA : 0 ≤ A ∧ A ≤ B.length) (hB : B.length ≤ 140737488351232) : vineryref01_Reader_Left.f ⟨B, A, b⟩ = some (if b = true then 0 else (B.length : Int) - A) := by
  unfold vineryref01_Reader_Left.f
  rw [w64 ((B.length : Int) - A) (by omega)]
  cases b <;> rfl
theorem rrest_tot (r : S_vineryref01_Reader) (hA : 0 ≤ r.At ∧ r.At ≤ r.B.length) (hB : r.B.length ≤ 140737488351232) (hb : isB r.B) : ∃ l r', vineryref01_Reader_Rest.f r = some (l, r') ∧ isB l ∧ l.length ≤ r.B.length := by
  obtain ⟨B, A, b⟩ := r
  have hA' : 0 ≤ A ∧ A ≤ B.length := hA
  have hB' : B.length ≤ 140737488351232 := hB
  unfold vineryref01_Reader_Rest.f
  rw [rleft_f B A b hA hB]
  simp only [Option.bind_some]
  obtain ⟨l, A', b', e, _, _, h3, h4, _⟩ := rtake_tot ⟨B, A, b⟩ (if b = true then 0 else (B.length : Int) - A) hA hB hb (by split <;> omega)
  rw [e]
  exact ⟨l, _, rfl, h3, h4⟩
theorem rrest_at (B l : List Int) (A : Int) (hA : 0 ≤ A) (hB : B.length ≤ 140737488351232) (h : B.drop A.toNat = l) (hAB : A ≤ B.length) : ∃ r', vineryref01_Reader_Rest.f ⟨B, A, false⟩ = some (l, r') := by
  unfold vineryref01_Reader_Rest.f
  rw [rleft_f B A false ⟨hA, hAB⟩ hB]
  simp only [Option.bind_some, Bool.false_eq_true, if_false]
  have hl := congrArg List.length h
  rw [List.length_drop] at hl
  obtain ⟨e, _, _⟩ := rtake_at B l [] A ((B.length : Int) - A) hA hB (by rw [h]; simp) hAB (by omega)
  rw [e]
  exact ⟨_, rfl⟩
def roughTail (k : Nat) (leaf : Bool) (kind label : Int) (id : List Int) (r : S_vineryref01_Reader) (n : Int) : Option S_api_Tunnel :=
  (vineryref01_Reader_Take.f r n).bind fun t56 => (vineryref02_Of.f k t56.1).bind fun t59 => (((if (kind == (2 : Int)) = true then some (true : Bool) else some (kind == (7 : Int) : Bool))).bind fun s106 => (if s106 = true then (vineryref01_Reader_Take.f t56.2 (2 : Int)).bind fun t108 => some ((t108.2.B : List Int), (t108.2.At : Int), (t108.2.No : Bool)) else some ((t56.2.B : List Int), (t56.2.At : Int), (t56.2.No : Bool)))).bind fun s70 => ((vineryref01_Reader_Rest.f (⟨s70.1, s70.2.1, s70.2.2⟩ : S_vineryref01_Reader)).bind fun t83 => (if (id.length + t83.1.length) * 1 ≤ 140737488355328 then some ((t83.2.B : List Int), (t83.2.At : Int), (t83.2.No : Bool), (id ++ t83.1 : List Int)) else none)).bind fun s75 => some (((⟨leaf, kind, label, t59.1, s75.2.2.2⟩ : S_api_Tunnel) : S_api_Tunnel))
def fine (u : S_api_Tunnel) : Prop := isB u.Id ∧ u.Id.length ≤ 10000 ∧ isB u.Root.B ∧ u.Root.B.length = 16
theorem of_fine (b : List Int) (h : isB b) : isB (if isSz b.length = true then ((⟨b.length, arC 16 zeros b⟩ : S_api_Addr), (0 : Int)) else (⟨0, zeros⟩, 1)).1.B ∧ (if isSz b.length = true then ((⟨b.length, arC 16 zeros b⟩ : S_api_Addr), (0 : Int)) else (⟨0, zeros⟩, 1)).1.B.length = 16 := by
  split
  · exact ⟨arC_isB h, arC_length _ _ _⟩
  · refine ⟨fun y hy => ?_, rfl⟩
    have : y = 0 := by simpa [zeros] using hy
    omega
theorem roughTail_tot (k : Nat) (leaf : Bool) (kind label : Int) (id : List Int) (r : S_vineryref01_Reader) (n : Int) (hA : 0 ≤ r.At ∧ r.At ≤ r.B.length) (hB : r.B.length ≤ 4096) (hb : isB r.B) (hid : isB id) (hl : id.length ≤ 100) (hn : n ≤ 9223372036854775807) : ∃ u, roughTail (k + 20) leaf kind label id r n = some u ∧ fine u := by
  unfold roughTail
  obtain ⟨l, A, b, e, h1, h2, h3, h4, _⟩ := rtake_tot r n hA (by omega) hb hn
  rw [e]
  simp only [Option.bind_some]
  rw [rof_ok]
  simp only [Option.bind_some]
  have hof := of_fine l h3
  generalize (if isSz l.length = true then ((⟨l.length, arC 16 zeros l⟩ : S_api_Addr), (0 : Int)) else (⟨0, zeros⟩, 1)) = ad at hof
  have fin : ∀ (A' : Int) (b' : Bool), 0 ≤ A' → A' ≤ r.B.length → ∃ u, (((vineryref01_Reader_Rest.f (⟨r.B, A', b'⟩ : S_vineryref01_Reader)).bind fun t83 => (if (id.length + t83.1.length) * 1 ≤ 140737488355328 then some ((t83.2.B : List Int), (t83.2.At : Int), (t83.2.No : Bool), (id ++ t83.1 : List Int)) else none)).bind fun s75 => some (((⟨leaf, kind, label, ad.1, s75.2.2.2⟩ : S_api_Tunnel) : S_api_Tunnel))) = some u ∧ fine u := by
    intro A' b' g1 g2
    obtain ⟨l2, r2, e2, h5, h6⟩ := rrest_tot ⟨r.B, A', b'⟩ ⟨g1, g2⟩ (by simp only; omega) hb
    rw [e2]
    simp only [Option.bind_some]
    simp only at h6
    rw [if_pos (by omega)]
    exact ⟨_, rfl, isB.app hid h5, by simp; omega, hof.1, hof.2⟩
  by_cases h27 : kind = 2 ∨ kind = 7
  · rw [show (if (kind == (2 : Int)) = true then some (true : Bool) else some (kind == (7 : Int) : Bool)) = some true from by rcases h27 with h | h <;> simp [h]]
    simp only [Option.bind_some, if_true]
    obtain ⟨l2, A2, b2, e2, g1, g2, _⟩ := rtake_tot ⟨r.B, A, b⟩ 2 ⟨h1, h2⟩ (by simp only; omega) hb (by omega)
    rw [e2]
    simp only [Option.bind_some]
    exact fin A2 b2 g1 g2
  · have hk2 : ¬ kind = 2 := fun h => h27 (.inl h)
    have hk7 : ¬ kind = 7 := fun h => h27 (.inr h)
    rw [show (if (kind == (2 : Int)) = true then some (true : Bool) else some (kind == (7 : Int) : Bool)) = some false from by simp [hk2, hk7]]
    simp only [Option.bind_some, Bool.false_eq_true, if_false]
    exact fin A b h1 h2
theorem rof_root (k : Nat) (a : S_api_Addr) (h : rightB a = true) (hl : a.B.length = 16) : vineryref02_Of.f (k + 20) (rootL a) = some (a, 0) := by
  have hs : isSz ((rootL a).length : Int) = true := by
    rw [rootL_length a h]; unfold rightB at h; simp only [Bool.and_eq_true] at h; exact h.1
  rw [rof_ok, if_pos hs, root_back a h hl]
theorem roughTail_ok (k : Nat) (leaf : Bool) (kind label : Int) (id mid idr : List Int) (root : S_api_Addr) (B : List Int) (A n : Int) (hA : 0 ≤ A) (hB : B.length ≤ 4096) (hAB : A ≤ B.length) (h : B.drop A.toNat = rootL root ++ (mid ++ idr)) (hn : n = root.Size)
    (hr : rightB root = true) (hrl : root.B.length = 16) (hm : if kind = 2 ∨ kind = 7 then mid.length = 2 else mid = []) (hid : id.length ≤ 4096) : roughTail (k + 20) leaf kind label id ⟨B, A, false⟩ n = some ⟨leaf, kind, label, root, id ++ idr⟩ := by
  unfold roughTail
  obtain ⟨e, d1, h1⟩ := rtake_at B (rootL root) _ A n hA (by omega) h hAB (by rw [hn]; exact rootL_length root hr)
  have hs : root.Size = 0 ∨ root.Size = 4 ∨ root.Size = 16 := isSz_or (by unfold rightB at hr; simp only [Bool.and_eq_true] at hr; exact hr.1)
  rw [e]
  simp only [Option.bind_some]
  rw [rof_root k root hr hrl]
  simp only [Option.bind_some]
  have fin : ∀ (A' : Int), 0 ≤ A' → A' ≤ B.length → B.drop A'.toNat = idr → (((vineryref01_Reader_Rest.f (⟨B, A', false⟩ : S_vineryref01_Reader)).bind fun t83 => (if (id.length + t83.1.length) * 1 ≤ 140737488355328 then some ((t83.2.B : List Int), (t83.2.At : Int), (t83.2.No : Bool), (id ++ t83.1 : List Int)) else none)).bind fun s75 => some (((⟨leaf, kind, label, root, s75.2.2.2⟩ : S_api_Tunnel) : S_api_Tunnel))) = some ⟨leaf, kind, label, root, id ++ idr⟩ := by
    intro A' g1 g2 g3
    obtain ⟨r', e2⟩ := rrest_at B idr A' g1 (by omega) g3 g2
    have hl := congrArg List.length g3
    rw [List.length_drop] at hl
    rw [e2]
    simp only [Option.bind_some]
    rw [if_pos (by omega)]
    rfl
  by_cases h27 : kind = 2 ∨ kind = 7
  · rw [if_pos h27] at hm
    rw [show (if (kind == (2 : Int)) = true then some (true : Bool) else some (kind == (7 : Int) : Bool)) = some true from by rcases h27 with h | h <;> simp [h]]
    simp only [Option.bind_some, if_true]
    obtain ⟨e2, d2, h2⟩ := rtake_at B mid idr (A + n) 2 (by omega) (by omega) d1 h1 (by omega)
    rw [e2]
    simp only [Option.bind_some]
    exact fin _ (by omega) h2 d2
  · rw [if_neg h27] at hm
    have hk2 : ¬ kind = 2 := fun h => h27 (.inl h)
    have hk7 : ¬ kind = 7 := fun h => h27 (.inr h)
    rw [show (if (kind == (2 : Int)) = true then some (true : Bool) else some (kind == (7 : Int) : Bool)) = some false from by simp [hk2, hk7]]
    simp only [Option.bind_some, Bool.false_eq_true, if_false]
    exact fin _ (by omega) h1 (by rw [d1, hm]; simp)
theorem rough_tot (k : Nat) (b : List Int) (hb : isB b) (hl : b.length ≤ 4096) : ∃ u, vineryref06_rough.f (k + 20) b = some u ∧ fine u := by
  unfold vineryref06_rough.f vineryref01_Open.f
  rw [if_pos (by simp; omega)]
  simp only [Option.bind_some, List.nil_append]
  obtain ⟨v1, A1, b1, e1, p1, q1, _⟩ := rnum_tot k ⟨b, 0, false⟩ 1 ⟨by simp, by simp⟩ (by simp only; omega) hb
  rw [e1]
  simp only [Option.bind_some]
  obtain ⟨v2, A2, b2, e2, p2, q2, _⟩ := rnum_tot k ⟨b, A1, b1⟩ 1 ⟨p1, q1⟩ (by simp only; omega) hb
  rw [e2]
  simp only [Option.bind_some]
  obtain ⟨l3, A3, b3, e3, p3, q3, _, _, m3⟩ := rtake_tot ⟨b, A2, b2⟩ 3 ⟨p2, q2⟩ (by simp only; omega) hb (by omega)
  rw [e3]
  simp only [Option.bind_some]
  obtain ⟨x, e4⟩ := rlread_tot k l3 (by omega)
  rw [e4]
  simp only [Option.bind_some]
  simp only at q1 q2 q3
  rw [rleft_f b A3 b3 ⟨p3, q3⟩ (by omega)]
  simp only [Option.bind_some]
  by_cases k1 : v2 = 1
  · obtain ⟨l5, A5, b5, e5, p5, q5, i5, _, m5⟩ := rtake_tot ⟨b, A3, b3⟩ 4 ⟨p3, q3⟩ (by simp only; omega) hb (by omega)
    rw [if_pos (by simpa using k1), e5]
    simp only [Option.bind_some]
    obtain ⟨l6, A6, b6, e6, p6, q6, i6, _, m6⟩ := rtake_tot ⟨b, A5, b5⟩ 2 ⟨p5, q5⟩ (by simp only; omega) hb (by omega)
    rw [e6]
    simp only [Option.bind_some]
    obtain ⟨l7, A7, b7, e7, p7, q7, i7, _, m7⟩ := rtake_tot ⟨b, A6, b6⟩ 2 ⟨p6, q6⟩ (by simp only; omega) hb (by omega)
    rw [e7]
    simp only [Option.bind_some]
    rw [if_pos (by omega)]
    exact roughTail_tot k (v1 == 1) v2 x.1 (l5 ++ l7) ⟨b, A7, b7⟩ 4 ⟨p7, q7⟩ hl hb (isB.app i5 i7) (by simp; omega) (by omega)
  · rw [if_neg (by simpa using k1)]
    by_cases k27 : v2 = 2 ∨ v2 = 7
    · rw [show (if (v2 == (2 : Int)) = true then some (v2 == (2 : Int)) else some (v2 == (7 : Int))) = some true from by rcases k27 with h | h <;> simp [h]]
      simp only [Option.bind_some, if_true]
      obtain ⟨l5, A5, b5, e5, p5, q5, i5, _, m5⟩ := rtake_tot ⟨b, A3, b3⟩ 3 ⟨p3, q3⟩ (by simp only; omega) hb (by omega)
      rw [e5]
      simp only [Option.bind_some]
      obtain ⟨v6, A6, b6, e6, p6, q6, hv⟩ := rnum_tot k ⟨b, A5, b5⟩ 1 ⟨p5, q5⟩ (by simp only; omega) hb
      rw [e6]
      simp only [Option.bind_some]
      exact roughTail_tot k (v1 == 1) v2 x.1 [] ⟨b, A6, b6⟩ v6 ⟨p6, q6⟩ hl hb (fun y hy => by simp at hy) (by simp) hv
    · rw [show (if (v2 == (2 : Int)) = true then some (v2 == (2 : Int)) else some (v2 == (7 : Int))) = some false from by
        have h2 : ¬ v2 = 2 := fun h => k27 (.inl h)
        have h7 : ¬ v2 = 7 := fun h => k27 (.inr h)
        simp [h2, h7]]
      simp only [Option.bind_some, Bool.false_eq_true, if_false]
      have hlf : (if b3 = true then (0 : Int) else (b.length : Int) - A3) ≤ 4096 ∧ 0 ≤ (if b3 = true then (0 : Int) else (b.length : Int) - A3) := by split <;> omega
      by_cases k345 : v2 = 3 ∨ v2 = 4 ∨ v2 = 5
      · rw [show (if (v2 == (3 : Int)) = true then some (v2 == (3 : Int)) else if (v2 == (4 : Int)) = true then some (v2 == (4 : Int)) else some (v2 == (5 : Int))) = some true from by rcases k345 with h | h | h <;> simp [h]]
        simp only [Option.bind_some, if_true]
        have hw : IntKind.i64.wrap (Int.tdiv (if b3 = true then (0 : Int) else (b.length : Int) - A3) 2) ≤ 9223372036854775807 := by
          rw [IntKind.wrap_i64]; omega
        exact roughTail_tot k (v1 == 1) v2 x.1 [] ⟨b, A3, b3⟩ _ ⟨p3, q3⟩ hl hb (fun y hy => by simp at hy) (by simp) hw
      · rw [show (if (v2 == (3 : Int)) = true then some (v2 == (3 : Int)) else if (v2 == (4 : Int)) = true then some (v2 == (4 : Int)) else some (v2 == (5 : Int))) = some false from by
          have h3 : ¬ v2 = 3 := fun h => k345 (.inl h)
          have h4 : ¬ v2 = 4 := fun h => k345 (.inr (.inl h))
          have h5 : ¬ v2 = 5 := fun h => k345 (.inr (.inr h))
          simp [h3, h4, h5]]
        simp only [Option.bind_some, Bool.false_eq_true, if_false]
        exact roughTail_tot k (v1 == 1) v2 x.1 [] ⟨b, A3, b3⟩ _ ⟨p3, q3⟩ hl hb (fun y hy => by simp at hy) (by simp) (by omega)
theorem rough_bytes (k : Nat) (t : S_api_Tunnel) (h : rightT t = true) (hlen : (bytesT t).length ≤ 4096) (hI : t.Id.length ≤ 4096) (hB : t.Root.B.length = 16) : vineryref06_rough.f (k + 20) (bytesT t) = some t := by
  obtain ⟨h1, h2, h3, h4⟩ := right_cases t h (by omega)
  have hrl := rootL_le t.Root
  have hrs := rootL_length t.Root h1
  have hsz : t.Root.Size = 0 ∨ t.Root.Size = 4 ∨ t.Root.Size = 16 := isSz_or (by unfold rightB at h1; simp only [Bool.and_eq_true] at h1; exact h1.1)
  have hK : 0 ≤ t.Kind ∧ t.Kind ≤ 7 := by omega
  have hKw : IntKind.u8.wrap t.Kind = t.Kind := by rw [IntKind.wrap_u8]; omega
  have hSw : IntKind.u8.wrap t.Root.Size = t.Root.Size := by rw [IntKind.wrap_u8]; omega
  have hp3 : (putL (16 * t.Label) 3).length = 3 := rfl
  have hlf : 0 ≤ leafL t.Leaf ∧ leafL t.Leaf ≤ 255 := by unfold leafL; split <;> omega
  obtain ⟨f, e, hlr⟩ := rlread_ok k t.Label h2 h3
  have hb : bytesT t = leafL t.Leaf :: t.Kind :: (putL (16 * t.Label) 3 ++ identL t) := by unfold bytesT; rw [hKw]; rfl
  have ht : ∀ id : List Int, id = t.Id → (⟨leafL t.Leaf == 1, t.Kind, t.Label, t.Root, id⟩ : S_api_Tunnel) = t := by
    intro id hid; rw [leaf_back, hid]
  generalize hBB : bytesT t = B at hb hlen
  unfold vineryref06_rough.f vineryref01_Open.f
  rw [if_pos (by simp; omega)]
  simp only [Option.bind_some, List.nil_append]
  obtain ⟨e1, d1, l1⟩ := rnum1_at k B _ 0 _ (by omega) (by omega) (by rw [hb]; rfl) (by omega) hlf.1 hlf.2
  rw [e1]
  simp only [Option.bind_some]
  obtain ⟨e2, d2, l2⟩ := rnum1_at k B _ (0 + 1) _ (by omega) (by omega) d1 l1 (by omega) (by omega)
  rw [e2]
  simp only [Option.bind_some]
  obtain ⟨e3, d3, l3⟩ := rtake_at B _ _ (0 + 1 + 1) 3 (by omega) (by omega) d2 l2 (by rw [hp3]; rfl)
  rw [e3]
  simp only [Option.bind_some]
  rw [hlr]
  simp only [Option.bind_some]
  rw [rleft_f B _ false ⟨by omega, l3⟩ (by omega)]
  simp only [Option.bind_some, Bool.false_eq_true, if_false]
  have hil : ((identL t).length : Int) = (B.length : Int) - (0 + 1 + 1 + 3) := by
    have := congrArg List.length d3
    rw [List.length_drop] at this
    omega
  rcases h4 with ⟨hk, hs, hid⟩ | ⟨hk, hs, hid⟩ | ⟨hk, hs, hid⟩ | ⟨hk, hid⟩ | ⟨hk, hid⟩
  · have ei : identL t = rootL t.Root ++ ([] ++ []) := by unfold identL; rw [if_neg (by omega), if_neg (by omega), if_neg (by omega), hid]; simp
    rw [ei] at d3 hil
    rw [if_neg (by simp [hk]), show (if (t.Kind == (2 : Int)) = true then some (t.Kind == (2 : Int)) else some (t.Kind == (7 : Int))) = some false from by simp [hk]]
    simp only [Option.bind_some, Bool.false_eq_true, if_false]
    rw [show (if (t.Kind == (3 : Int)) = true then some (t.Kind == (3 : Int)) else if (t.Kind == (4 : Int)) = true then some (t.Kind == (4 : Int)) else some (t.Kind == (5 : Int))) = some false from by simp [hk]]
    simp only [Option.bind_some, Bool.false_eq_true, if_false]
    have := roughTail_ok k (leafL t.Leaf == 1) t.Kind t.Label [] [] [] t.Root B _ ((B.length : Int) - (0 + 1 + 1 + 3)) (by omega) hlen l3 d3 (by rw [← hil]; simp; omega) h1 hB (by rw [if_neg (by omega)]) (by simp)
    rw [ht _ (by rw [hid]; rfl)] at this
    exact this
  · have ei : identL t = t.Id.take 4 ++ ([0, 0] ++ (t.Id.drop 4 ++ (rootL t.Root ++ ([] ++ [])))) := by unfold identL; rw [if_pos hk]; simp
    rw [ei] at d3
    rw [if_pos (by simp [hk])]
    obtain ⟨e5, d5, l5⟩ := rtake_at B _ _ _ 4 (by omega) (by omega) d3 l3 (by simp; omega)
    rw [e5]
    simp only [Option.bind_some]
    obtain ⟨e6, d6, l6⟩ := rtake_at B _ _ _ 2 (by omega) (by omega) d5 l5 (by simp)
    rw [e6]
    simp only [Option.bind_some]
    obtain ⟨e7, d7, l7⟩ := rtake_at B _ _ _ 2 (by omega) (by omega) d6 l6 (by simp; omega)
    rw [e7]
    simp only [Option.bind_some]
    rw [if_pos (by simp; omega)]
    have := roughTail_ok k (leafL t.Leaf == 1) t.Kind t.Label (t.Id.take 4 ++ t.Id.drop 4) [] [] t.Root B _ 4 (by omega) hlen l7 d7 (by omega) h1 hB (by rw [if_neg (by omega)]) (by simp; omega)
    rw [ht _ (by simp)] at this
    exact this
  · have ei : ∃ c, identL t = [c, 0, famL t.Root] ++ (t.Root.Size :: (rootL t.Root ++ (putL t.Id.length 2 ++ t.Id))) := by
      unfold identL
      rcases hk with hk | hk
      · exact ⟨6, by rw [if_neg (by omega), if_neg (by omega), if_pos hk, hSw]; simp⟩
      · exact ⟨7, by rw [if_neg (by omega), if_pos hk, hSw]; simp⟩
    obtain ⟨c, ei⟩ := ei
    rw [ei] at d3
    rw [if_neg (by simp; omega), show (if (t.Kind == (2 : Int)) = true then some (t.Kind == (2 : Int)) else some (t.Kind == (7 : Int))) = some true from by rcases hk with hk | hk <;> simp [hk]]
    simp only [Option.bind_some, if_true]
    obtain ⟨e5, d5, l5⟩ := rtake_at B _ _ _ 3 (by omega) (by omega) d3 l3 (by simp)
    rw [e5]
    simp only [Option.bind_some]
    obtain ⟨e6, d6, l6⟩ := rnum1_at k B _ _ _ (by omega) (by omega) d5 l5 (by omega) (by omega)
    rw [e6]
    simp only [Option.bind_some]
    have := roughTail_ok k (leafL t.Leaf == 1) t.Kind t.Label [] (putL t.Id.length 2) t.Id t.Root B _ t.Root.Size (by omega) hlen l6 d6 rfl h1 hB (by rw [if_pos hk]; rfl) (by simp)
    rw [ht _ (by simp)] at this
    exact this
  · have ei : identL t = rootL t.Root ++ ([] ++ t.Id) := by unfold identL; rw [if_neg (by omega), if_neg (by omega), if_neg (by omega)]; simp
    rw [ei] at d3 hil
    have hhalf : IntKind.i64.wrap (Int.tdiv ((B.length : Int) - (0 + 1 + 1 + 3)) 2) = t.Root.Size := by
      have : (B.length : Int) - (0 + 1 + 1 + 3) = 2 * t.Root.Size := by rw [← hil]; simp; omega
      rw [this, Int.mul_tdiv_cancel_left _ (by decide), w64 _ (by omega)]
    rw [if_neg (by simp; omega), show (if (t.Kind == (2 : Int)) = true then some (t.Kind == (2 : Int)) else some (t.Kind == (7 : Int))) = some false from by rcases hk with hk | hk | hk <;> simp [hk]]
    simp only [Option.bind_some, Bool.false_eq_true, if_false]
    rw [show (if (t.Kind == (3 : Int)) = true then some (t.Kind == (3 : Int)) else if (t.Kind == (4 : Int)) = true then some (t.Kind == (4 : Int)) else some (t.Kind == (5 : Int))) = some true from by rcases hk with hk | hk | hk <;> simp [hk]]
    simp only [Option.bind_some, if_true]
    have := roughTail_ok k (leafL t.Leaf == 1) t.Kind t.Label [] [] t.Id t.Root B _ _ (by omega) hlen l3 d3 hhalf h1 hB (by rw [if_neg (by omega)]) (by simp)
    rw [ht _ (by simp)] at this
    exact this
  · have ei : identL t = rootL t.Root ++ ([] ++ []) := by unfold identL; rw [if_neg (by omega), if_neg (by omega), if_neg (by omega), hid]; simp
    rw [ei] at d3 hil
    rw [if_neg (by simp [hk]), show (if (t.Kind == (2 : Int)) = true then some (t.Kind == (2 : Int)) else some (t.Kind == (7 : Int))) = some false from by simp [hk]]
    simp only [Option.bind_some, Bool.false_eq_true, if_false]
    rw [show (if (t.Kind == (3 : Int)) = true then some (t.Kind == (3 : Int)) else if (t.Kind == (4 : Int)) = true then some (t.Kind == (4 : Int)) else some (t.Kind == (5 : Int))) = some false from by simp [hk]]
    simp only [Option.bind_some, Bool.false_eq_true, if_false]
    have := roughTail_ok k (leafL t.Leaf == 1) t.Kind t.Label [] [] [] t.Root B _ ((B.length : Int) - (0 + 1 + 1 + 3)) (by omega) hlen l3 d3 (by rw [← hil]; simp; omega) h1 hB (by rw [if_neg (by omega)]) (by simp)
    rw [ht _ (by rw [hid]; rfl)] at this
    exact this
theorem identL_isB (t : S_api_Tunnel) (hI : isB t.Id) (hR : isB t.Root.B) (hl : t.Root.B.length = 16) : isB (identL t) := by
  have hr := rootL_isB t.Root hR hl
  have hf : famL t.Root = 1 ∨ famL t.Root = 2 := by unfold famL; split <;> simp
  have hc : ∀ c : Int, 0 ≤ c → c ≤ 255 → isB [c, 0, famL t.Root, IntKind.u8.wrap t.Root.Size] := by
    intro c h0 h1 y hy
    have := IntKind.wrap_u8 t.Root.Size
    simp only [List.mem_cons, List.not_mem_nil, or_false] at hy
    rcases hy with rfl | rfl | rfl | rfl <;> omega
  have hp : isB (putL (t.Id.length : Int) 2) := by
    intro y hy
    simp only [putL, List.mem_cons, List.not_mem_nil, or_false] at hy
    rcases hy with rfl | rfl <;> omega
  unfold identL
  split
  · refine isB.app (isB.app (isB.app (fun y hy => hI y (List.mem_of_mem_take hy)) ?_) (fun y hy => hI y (List.mem_of_mem_drop hy))) hr
    intro y hy
    simp only [List.mem_cons, List.not_mem_nil, or_false] at hy
    rcases hy with rfl | rfl <;> omega
  · split
    · exact isB.app (isB.app (isB.app (hc 7 (by omega) (by omega)) hr) hp) hI
    · split
      · exact isB.app (isB.app (isB.app (hc 6 (by omega) (by omega)) hr) hp) hI
      · exact isB.app hr hI
theorem take_tot (r : S_cursor_Reader) (n : Int) (hl : r.rest.left.length ≤ 140737488355328) : ∃ l r', cursor_Reader_Take.f r n = some (l, r') ∧ l.length ≤ r.rest.left.length ∧ l.length ≤ n.toNat ∧ r'.rest.left.length ≤ r.rest.left.length ∧ (isB r.rest.left → isB l ∧ isB r'.rest.left) := by
  by_cases h : r.rest.bad = true ∨ n < 0 ∨ n > r.rest.left.length
  · exact ⟨_, _, take_bad r n h, by simp, by simp, Nat.le_refl _, fun hi => ⟨fun y hy => by simp at hy, hi⟩⟩
  · have hb : r.rest.bad = false := by cases hb : r.rest.bad <;> simp_all
    exact ⟨_, _, take_ok r n hl hb (by omega) (by omega), by simp; omega, by simp; omega, by simp, fun hi => ⟨fun y hy => hi y (List.mem_of_mem_take hy), fun y hy => hi y (List.mem_of_mem_drop hy)⟩⟩
theorem num_tot (k : Nat) (r : S_cursor_Reader) (n : Int) : ∃ v r', cursor_Reader_Num.f (k + 5) r n = some (v, r') ∧ r'.rest.left.length ≤ r.rest.left.length ∧ (isB r.rest.left → isB r'.rest.left) := by
  by_cases h : r.rest.bad = true ∨ n < 1 ∨ n > 4 ∨ n > r.rest.left.length
  · exact ⟨_, _, num_bad (k + 4) r n h, Nat.le_refl _, id⟩
  · have hb : r.rest.bad = false := by cases hb : r.rest.bad <;> simp_all
    exact ⟨_, _, num_ok k r n hb (by omega) (by omega) (by omega), by simp, fun hi y hy => hi y (List.mem_of_mem_drop hy)⟩
theorem labelread_tot (k : Nat) (l : List Int) (hl : l.length ≤ 140737488355328) : ∃ x, label_Read.f (k + 20) l = some x := by
  unfold label_Read.f cursor_Open.f
  rw [clone_ok _ hl]
  simp only [Option.bind_some]
  obtain ⟨v, r', h, _, _⟩ := num_tot (k + 15) ⟨⟨l, false⟩⟩ 3
  rw [h]
  simp only [Option.bind_some]
  exact ite_some_tot _ _
theorem root_tot (r : S_cursor_Reader) (n : Int) (hl : r.rest.left.length ≤ 140737488355328) : ∃ a r', pmsi_root.f r n = some (a, r') ∧ r'.rest.left.length ≤ r.rest.left.length ∧ (isB r.rest.left → isB r'.rest.left ∧ isB a.B ∧ a.B.length = 16) := by
  unfold pmsi_root.f
  obtain ⟨l, r', h, _, _, h2, h3⟩ := take_tot r n hl
  rw [h]
  simp only [Option.bind_some, of_ok]
  exact ⟨_, _, rfl, h2, fun hi => ⟨(h3 hi).2, of_fine l (h3 hi).1⟩⟩
def good2 (k : Nat) (b : List Int) (u : S_api_Tunnel) (e : Int) : Prop := (e = 4 ∧ u = zeroT) ∨ (e = 0 ∧ fine u ∧ rightT u = true ∧ bytesT u = b)
theorem bytesT_isB (t : S_api_Tunnel) (hf : fine t) : isB (bytesT t) := by
  unfold bytesT
  refine isB.app (isB.app ?_ ?_) (identL_isB t hf.1 hf.2.2.1 hf.2.2.2)
  · intro y hy
    have := IntKind.wrap_u8 t.Kind
    simp only [List.mem_cons, List.not_mem_nil, or_false] at hy
    rcases hy with rfl | rfl
    · unfold leafL; split <;> omega
    · omega
  · intro y hy
    simp only [putL, List.mem_cons, List.not_mem_nil, or_false] at hy
    rcases hy with rfl | rfl | rfl <;> omega
theorem tail_any2 (k : Nat) (t : S_api_Tunnel) (rr : S_cursor_rest) (b : List Int) (hb : isB b) (hf : fine t) : ∃ u e, tailP (k + 20) t rr b = some (u, e) ∧ good2 k b u e := by
  have hI : t.Id.length ≤ 140737488351232 := by have := hf.2.1; omega
  unfold tailP cursor_rest_Bad.f
  have hp := pbytes_ok k t hI
  cases hr : rr.bad
  · cases h : rightT t
    · rw [h] at hp
      rw [hp]
      exact ⟨zeroT, 4, rfl, .inl ⟨rfl, rfl⟩⟩
    · rw [if_pos h] at hp
      rw [hp]
      simp only [Option.bind_some, equal_f]
      cases hq : (b2s (bytesT t) == b2s b)
      · exact ⟨zeroT, 4, rfl, .inl ⟨rfl, rfl⟩⟩
      · exact ⟨t, 0, rfl, .inr ⟨rfl, hf, h, b2s_inj (bytesT_isB t hf) hb (eq_of_beq hq)⟩⟩
  · rw [hp]
    exact ⟨zeroT, 4, by simp, .inl ⟨rfl, rfl⟩⟩
theorem parse_any2 (k : Nat) (b : List Int) (hb : b.length ≤ 4096) (hB : isB b) : ∃ u e, pmsi_Parse.f (k + 20) b = some (u, e) ∧ good2 k b u e := by
  unfold pmsi_Parse.f cursor_Open.f
  rw [clone_ok _ (by omega)]
  simp only [Option.bind_some]
  obtain ⟨v1, r1, e1, m1, i1⟩ := num_tot (k + 15) ⟨⟨b, false⟩⟩ 1
  replace i1 := i1 hB
  rw [e1]
  simp only [Option.bind_some]
  obtain ⟨v2, r2, e2, m2, i2⟩ := num_tot (k + 15) r1 1
  replace i2 := i2 i1
  rw [e2]
  simp only [Option.bind_some]
  simp only at m1
  obtain ⟨l3, r3, e3, _, m3, n3, i3⟩ := take_tot r2 3 (by omega)
  replace i3 := i3 i2
  rw [e3]
  simp only [Option.bind_some]
  obtain ⟨x, e4⟩ := labelread_tot k l3 (by omega)
  rw [e4]
  simp only [Option.bind_some]
  by_cases k1 : v2 = 1
  · obtain ⟨l5, r5, e5, _, m5, n5, i5⟩ := take_tot r3 4 (by omega)
    replace i5 := i5 i3.2
    rw [if_pos (by simpa using k1), e5]
    simp only [Option.bind_some]
    obtain ⟨l6, r6, e6, _, m6, n6, i6⟩ := take_tot r5 2 (by omega)
    replace i6 := i6 i5.2
    rw [e6]
    simp only [Option.bind_some]
    obtain ⟨l7, r7, e7, _, m7, n7, i7⟩ := take_tot r6 2 (by omega)
    replace i7 := i7 i6.2
    rw [e7]
    simp only [Option.bind_some]
    rw [if_pos (by omega)]
    simp only [Option.bind_some]
    obtain ⟨a8, r8, e8, n8, i8⟩ := root_tot ⟨⟨r7.rest.left, r7.rest.bad⟩⟩ 4 (by simp only; omega)
    replace i8 := i8 i7.2
    rw [e8]
    simp only [Option.bind_some]
    exact tail_any2 k _ r8.rest b hB ⟨isB.app i5.1 i7.1, by simp; omega, i8.2⟩
  · rw [if_neg (by simpa using k1)]
    by_cases k27 : v2 = 2 ∨ v2 = 7
    · rw [show (if (v2 == (2 : Int)) = true then some (v2 == (2 : Int)) else some (v2 == (7 : Int))) = some true from by rcases k27 with h | h <;> simp [h]]
      simp only [Option.bind_some, if_true]
      obtain ⟨l5, r5, e5, _, m5, n5, i5⟩ := take_tot r3 3 (by omega)
      replace i5 := i5 i3.2
      rw [e5]
      simp only [Option.bind_some]
      obtain ⟨v6, r6, e6, n6, i6⟩ := num_tot (k + 15) r5 1
      replace i6 := i6 i5.2
      rw [e6]
      simp only [Option.bind_some]
      obtain ⟨a7, r7, e7, n7, i7⟩ := root_tot r6 v6 (by omega)
      replace i7 := i7 i6
      rw [e7]
      simp only [Option.bind_some]
      obtain ⟨v8, r8, e8, n8, i8⟩ := num_tot (k + 15) r7 2
      replace i8 := i8 i7.1
      rw [e8]
      simp only [Option.bind_some]
      obtain ⟨l9, r9, e9, m9, _, n9, i9⟩ := take_tot r8 v8 (by omega)
      replace i9 := i9 i8
      rw [e9]
      simp only [Option.bind_some]
      exact tail_any2 k _ r9.rest b hB ⟨i9.1, by simp only; omega, i7.2⟩
    · rw [show (if (v2 == (2 : Int)) = true then some (v2 == (2 : Int)) else some (v2 == (7 : Int))) = some false from by
        have h2 : ¬ v2 = 2 := fun h => k27 (.inl h)
        have h7 : ¬ v2 = 7 := fun h => k27 (.inr h)
        simp [h2, h7]]
      simp only [Option.bind_some, Bool.false_eq_true, if_false]
      by_cases k345 : v2 = 3 ∨ v2 = 4 ∨ v2 = 5
      · rw [show (if (v2 == (3 : Int)) = true then some (v2 == (3 : Int)) else if (v2 == (4 : Int)) = true then some (v2 == (4 : Int)) else some (v2 == (5 : Int))) = some true from by rcases k345 with h | h | h <;> simp [h]]
        simp only [Option.bind_some, if_true]
        rw [left_f]
        simp only [Option.bind_some]
        obtain ⟨a7, r7, e7, n7, i7⟩ := root_tot r3 (IntKind.i64.wrap (Int.tdiv (if r3.rest.bad = true then 0 else (r3.rest.left.length : Int)) 2)) (by omega)
        replace i7 := i7 i3.2
        rw [e7]
        simp only [Option.bind_some]
        rw [left_f]
        simp only [Option.bind_some]
        obtain ⟨l9, r9, e9, m9, _, n9, i9⟩ := take_tot r7 (if r7.rest.bad = true then 0 else (r7.rest.left.length : Int)) (by omega)
        rw [e9]
        simp only [Option.bind_some]
        exact tail_any2 k _ r9.rest b hB ⟨(i9 i7.1).1, by simp only; omega, i7.2⟩
      · rw [show (if (v2 == (3 : Int)) = true then some (v2 == (3 : Int)) else if (v2 == (4 : Int)) = true then some (v2 == (4 : Int)) else some (v2 == (5 : Int))) = some false from by
          have h3 : ¬ v2 = 3 := fun h => k345 (.inl h)
          have h4 : ¬ v2 = 4 := fun h => k345 (.inr (.inl h))
          have h5 : ¬ v2 = 5 := fun h => k345 (.inr (.inr h))
          simp [h3, h4, h5]]
        simp only [Option.bind_some, Bool.false_eq_true, if_false]
        rw [left_f]
        simp only [Option.bind_some]
        obtain ⟨a7, r7, e7, n7, i7⟩ := root_tot r3 (if r3.rest.bad = true then 0 else (r3.rest.left.length : Int)) (by omega)
        replace i7 := i7 i3.2
        rw [e7]
        simp only [Option.bind_some]
        exact tail_any2 k _ r7.rest b hB ⟨fun y hy => by simp at hy, by simp, i7.2⟩
theorem requal_ok (a b : S_api_Tunnel) : vineryref06_Equal.f a b = some ((a.Kind == b.Kind && ((a.Root.Size == b.Root.Size) && ((eqA 16 a.Root.B b.Root.B) && true)) && (b2s a.Id == b2s b.Id)) && (a.Leaf == b.Leaf && a.Label == b.Label)) := by
  unfold vineryref06_Equal.f vineryref06_Same.f
  rw [bstr_toList, bstr_toList]
  cases (a.Kind == b.Kind) <;> cases ((a.Root.Size == b.Root.Size) && ((eqA 16 a.Root.B b.Root.B) && true)) <;> cases (b2s a.Id == b2s b.Id) <;> cases (a.Leaf == b.Leaf) <;> simp
theorem requal_refl (a : S_api_Tunnel) : vineryref06_Equal.f a a = some true := by
  have : eqA 16 a.Root.B a.Root.B = true := (eqA_iff _ _ _).2 fun _ _ => rfl
  rw [requal_ok, this]
  simp
theorem rparse_any (k : Nat) (b : List Int) (hb : b.length ≤ 4096) (hB : isB b) : ∃ u e, vineryref06_Parse.f (k + 20) b = some (u, e) ∧ good2 k b u e := by
  unfold vineryref06_Parse.f
  obtain ⟨u, h, hf⟩ := rough_tot k b hB hb
  rw [h]
  simp only [Option.bind_some]
  rw [rbytes_ok k u (by have := hf.2.1; omega) hf.1]
  simp only [Option.bind_some, bstr_toList]
  cases hr : rightT u
  · exact ⟨zeroT, 4, rfl, .inl ⟨rfl, rfl⟩⟩
  · simp only [if_true]
    cases hq : (b2s (bytesT u) == b2s b)
    · exact ⟨zeroT, 4, rfl, .inl ⟨rfl, rfl⟩⟩
    · exact ⟨u, 0, rfl, .inr ⟨rfl, hf, hr, b2s_inj (bytesT_isB u hf) hB (eq_of_beq hq)⟩⟩
theorem rparse_bytes (k : Nat) (t : S_api_Tunnel) (hr : rightT t = true) (hlen : (bytesT t).length ≤ 4096) (hf : fine t) (hI : t.Id.length ≤ 4096) : vineryref06_Parse.f (k + 20) (bytesT t) = some (t, 0) := by
  unfold vineryref06_Parse.f
  rw [rough_bytes k t hr hlen hI hf.2.2.2]
  simp only [Option.bind_some]
  rw [rbytes_ok k t (by omega) hf.1, if_pos hr]
  simp [bstr_toList]
theorem parses_same (k : Nat) (b : List Int) (hb : b.length ≤ 4096) (hB : isB b) : ∃ r, pmsi_Parse.f (k + 20) b = some r ∧ vineryref06_Parse.f (k + 20) b = some r := by
  have hidl : ∀ u, rightT u = true → fine u → bytesT u = b → u.Id.length ≤ 4096 := by
    intro u hu hf e
    have hl := congrArg List.length e
    unfold bytesT identL at hl
    have hid : u.Id.length ≤ (if u.Kind = 1 then ((u.Id.take 4 ++ [0, 0]) ++ u.Id.drop 4) ++ rootL u.Root
  else if u.Kind = 7 then (([7, 0, famL u.Root, IntKind.u8.wrap u.Root.Size] ++ rootL u.Root) ++ putL u.Id.length 2) ++ u.Id
  else if u.Kind = 2 then (([6, 0, famL u.Root, IntKind.u8.wrap u.Root.Size] ++ rootL u.Root) ++ putL u.Id.length 2) ++ u.Id
  else rootL u.Root ++ u.Id).length := by
      split
      · simp; omega
      · split
        · simp; omega
        · split
          · simp; omega
          · simp
    rw [List.length_append] at hl
    omega
  obtain ⟨u, e, h1, h2⟩ := parse_any2 k b hb hB
  obtain ⟨v, f, g1, g2⟩ := rparse_any k b hb hB
  rcases h2 with ⟨rfl, rfl⟩ | ⟨rfl, hf, hr, hbb⟩
  · rcases g2 with ⟨rfl, rfl⟩ | ⟨rfl, hf, hr, hbb⟩
    · exact ⟨_, h1, g1⟩
    · have := parse_bytes k v hr (by have := hidl v hr hf hbb; omega) hf.2.2.2
      rw [hbb, h1] at this
      have e := congrArg (fun o => o.map (·.2)) this
      simp at e
  · have := rparse_bytes k u hr (by rw [hbb]; exact hb) hf (hidl u hr hf hbb)
    rw [hbb] at this
    exact ⟨_, h1, this⟩
theorem PmsiCodes.law (t : S_api_Tunnel) (ht : okS_api_Tunnel t) (b : List Int) (hb : okL 1 (okI .u8) b) : ∃ k, vinerylaw06_PmsiCodes.f k t b = some true := by
  have hI := okL_len ht.2.2.2.2
  have hB := okL_isB hb
  have hbl := okL_len hb
  refine ⟨0 + 20, ?_⟩
  unfold vinerylaw06_PmsiCodes.f Lent.f Kept.f
  rw [small06, Option.bind_some]
  by_cases hc : t.Id.length ≤ 4096 ∧ b.length ≤ 4096
  · rw [if_neg (by have := hc.1; have := hc.2; simp; omega), if_pos (by omega), Option.bind_some, if_pos (by omega), Option.bind_some]
    obtain ⟨r, h1, h2⟩ := parses_same 0 b hc.2 hB
    simp only [Option.bind_some]
    rw [pbytes_ok 0 t hI, Option.bind_some, h1, Option.bind_some, rbytes_ok 0 t hI (okL_isB ht.2.2.2.2), h2]
    simp only [Option.bind_some, BEq.rfl, if_true, pright_ok, rpright_ok 0 t hI (okL_isB ht.2.2.2.2)]
    rw [requal_refl]
    simp
  · rw [if_pos (by simp; omega)]
end Go.E
