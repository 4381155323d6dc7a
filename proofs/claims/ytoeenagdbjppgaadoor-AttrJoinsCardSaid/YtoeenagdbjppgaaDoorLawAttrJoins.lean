/- The plain law: what the walk computes is true, whatever the input. -/
import Derived.Test.YtoeenagdbjppgaaDoorGenAttrJoins
import Derived.Test.YtoeenagdbjppgaaDoorEngR
set_option linter.unusedVariables false
set_option linter.unusedSimpArgs false
namespace Go.E
theorem bstr_toList (l : List UInt8) : (bstr l).toList = l := by rw [ByteArray.toList_eq]; simp [bstr]
theorem clone_ok (l : List Int) (h : l.length ≤ 140737488355328) : bytes_Clone.f l = some l := if_pos h
theorem next_bad (r : S_cursor_rest) (n : Int) (h : r.bad = true ∨ n < 0 ∨ n > r.left.length) : cursor_rest_next.f r n = some ([], ⟨r.left, true⟩) := by
  unfold cursor_rest_next.f
  by_cases hb : r.bad = true
  · simp [hb]
  · by_cases h1 : n < 0
    · simp [hb, h1]
    · have h2 : (r.left.length : Int) < n := by rcases h with h | h | h <;> first | exact absurd h hb | exact absurd h h1 | exact h
      simp [hb, h1, h2]
theorem next_ok (r : S_cursor_rest) (n : Int) (hb : r.bad = false) (h0 : 0 ≤ n) (h1 : n ≤ r.left.length) : cursor_rest_next.f r n = some (r.left.take n.toNat, ⟨r.left.drop n.toNat, false⟩) := by
  unfold cursor_rest_next.f
  have e0 : ¬ n < 0 := by omega
  have e1 : ¬ (r.left.length : Int) < n := by omega
  simp [hb, e0, e1, h0, h1]
theorem take_bad (r : S_cursor_Reader) (n : Int) (h : r.rest.bad = true ∨ n < 0 ∨ n > r.rest.left.length) : cursor_Reader_Take.f r n = some ([], ⟨⟨r.rest.left, true⟩⟩) := by
  unfold cursor_Reader_Take.f
  rw [next_bad _ _ h, Option.bind_some, clone_ok _ (by simp)]
  rfl
theorem take_ok (r : S_cursor_Reader) (n : Int) (hl : r.rest.left.length ≤ 140737488355328) (hb : r.rest.bad = false) (h0 : 0 ≤ n) (h1 : n ≤ r.rest.left.length) :
    cursor_Reader_Take.f r n = some (r.rest.left.take n.toNat, ⟨⟨r.rest.left.drop n.toNat, false⟩⟩) := by
  unfold cursor_Reader_Take.f
  rw [next_ok _ _ hb h0 h1, Option.bind_some, clone_ok _ (by simp; omega)]
  rfl
/-- what a number's bytes come to -/
def numL : List Int → Int → Int
  | [], x => x
  | c :: l, x => numL l (IntKind.i64.wrap (BitVec.ofInt IntKind.i64.bits (IntKind.i64.wrap (x * 2 ^ (min (8 : Int).toNat IntKind.i64.bits))) ||| BitVec.ofInt IntKind.i64.bits (IntKind.i64.wrap c)).toNat)
theorem num_l0 (t : List Int × S_cursor_rest) (hl : t.1.length ≤ 140737488355328) : ∀ (m k i : Nat) (x : Int), m + i = t.1.length → m < k → cursor_Reader_Num.l0 t k x (i : Int) = some (numL (t.1.drop i) x)
  | 0, k + 1, i, x, h, _ => by
    unfold cursor_Reader_Num.l0
    rw [if_neg (by simp; omega), List.drop_of_length_le (by omega)]
    rfl
  | m + 1, k + 1, i, x, h, hk => by
    unfold cursor_Reader_Num.l0
    have hi : i < t.1.length := by omega
    have e : IntKind.i64.wrap ((i : Int) + 1) = ((i + 1 : Nat) : Int) := by rw [IntKind.wrap_i64]; omega
    rw [if_pos (by simpa using hi), if_pos (by omega), e, num_l0 t hl m k (i + 1) _ (by omega) (by omega), List.drop_eq_getElem_cons hi]
    have er : rd t.1 (i : Int) = t.1[i] := by simp [rd, List.getD, hi]
    rw [er]
    rfl
theorem num_bad (k : Nat) (r : S_cursor_Reader) (n : Int) (h : r.rest.bad = true ∨ n < 1 ∨ n > 4 ∨ n > r.rest.left.length) : cursor_Reader_Num.f (k + 1) r n = some (0, ⟨⟨r.rest.left, true⟩⟩) := by
  unfold cursor_Reader_Num.f
  have hl : cursor_Reader_Num.l0 ([], ⟨r.rest.left, true⟩) (k + 1) 0 0 = some 0 := by unfold cursor_Reader_Num.l0; simp
  by_cases hs : n < 1 ∨ n > 4
  · have : (if decide (n < 1) = true then true else decide (n > 4)) = true := by rcases hs with h | h <;> simp [h]
    rw [if_pos this, Option.bind_some, next_bad _ _ (by omega), Option.bind_some, hl]
    rfl
  · have h1 : ¬ n < 1 := fun e => hs (.inl e)
    have h2 : ¬ 4 < n := fun e => hs (.inr e)
    have : ¬ (if decide (n < 1) = true then true else decide (n > 4)) = true := by simp [h1, h2]
    rw [if_neg this, Option.bind_some, next_bad _ _ (by rcases h with h | h | h | h <;> first | exact .inl h | exact absurd h h1 | exact absurd h h2 | exact .inr (.inr h)), Option.bind_some, hl]
    rfl
theorem num_ok (k : Nat) (r : S_cursor_Reader) (n : Int) (hb : r.rest.bad = false) (h1 : 1 ≤ n) (h4 : n ≤ 4) (hn : n ≤ r.rest.left.length) :
    cursor_Reader_Num.f (k + 5) r n = some (numL (r.rest.left.take n.toNat) 0, ⟨⟨r.rest.left.drop n.toNat, false⟩⟩) := by
  unfold cursor_Reader_Num.f
  have e1 : ¬ n < 1 := by omega
  have e4 : ¬ 4 < n := by omega
  rw [if_neg (by simp [e1, e4]), Option.bind_some, next_ok _ _ hb (by omega) hn, Option.bind_some]
  have hl : (r.rest.left.take n.toNat).length ≤ 4 := by simp; omega
  have := num_l0 (r.rest.left.take n.toNat, ⟨r.rest.left.drop n.toNat, false⟩) (by show (r.rest.left.take n.toNat).length ≤ _; omega) (r.rest.left.take n.toNat).length (k + 5) 0 0 rfl (by omega)
  simp only [Int.ofNat_zero, Int.natCast_zero, List.drop_zero] at this
  rw [this]
  rfl
theorem fdiv_pos (n : Int) (d : Nat) (hn : 0 ≤ n) : Int.fdiv n (2 ^ d) = n / (2 ^ d) := Int.fdiv_eq_ediv_of_nonneg _ (Int.le_of_lt (Int.pow_pos (by decide)))
theorem put_step (n : Int) (hn : 0 ≤ n) (k : Nat) (x : List Int) (i : Nat) (hi : i ≤ 32) (hx : x.length + 1 ≤ 140737488355328) :
    cursor_Put.l0 n (k + 1) x (i : Int) = cursor_Put.l0 n k (x ++ [(n / 2 ^ i) % 256]) ((i : Int) - 8) := by
  rw [cursor_Put.l0]
  have h0 : (0 : Int) ≤ (i : Int) := by omega
  have e : IntKind.i64.wrap ((i : Int) - 8) = (i : Int) - 8 := by rw [IntKind.wrap_i64]; omega
  have hm : min ((i : Int).toNat) IntKind.i64.bits = i := by
    show min i 64 = i
    omega
  rw [if_pos (by simp), if_pos h0, if_pos (by simp; omega), e, hm, fdiv_pos _ _ hn, IntKind.wrap_u8]
theorem put_end (n : Int) (k : Nat) (x : List Int) (i : Int) (hi : i < 0) : cursor_Put.l0 n (k + 1) x i = some x := by
  rw [cursor_Put.l0, if_neg (by simp; omega)]
def putL (n : Int) : Nat → List Int
  | 1 => [n % 256]
  | 2 => [n / 256 % 256, n % 256]
  | 3 => [n / 65536 % 256, n / 256 % 256, n % 256]
  | 4 => [n / 16777216 % 256, n / 65536 % 256, n / 256 % 256, n % 256]
  | _ => []
theorem put_bad1 (k : Nat) (b : List Int) (n s : Int) (h : s < 1 ∨ s > 4) : cursor_Put.f k b n s = some ([], 1) := by
  unfold cursor_Put.f
  have : (if decide (s < 1) = true then true else decide (s > 4)) = true := by simp; omega
  rw [if_pos this]
theorem put_bad5 (k : Nat) (b : List Int) (n s : Int) (h1 : 1 ≤ s) (h4 : s ≤ 4) (h : n < 0 ∨ n ≥ 2 ^ (8 * s.toNat)) : cursor_Put.f k b n s = some ([], 5) := by
  unfold cursor_Put.f
  have : ¬ (if decide (s < 1) = true then true else decide (s > 4)) = true := by simp; omega
  rw [if_neg this]
  have e : IntKind.i64.wrap ((8 : Int) * s) = 8 * s := by rw [IntKind.wrap_i64]; omega
  rw [e]
  by_cases hn : n < 0
  · simp [hn]
  · have hge : n ≥ 2 ^ (8 * s.toNat) := h.resolve_left hn
    have hm : min ((8 * s).toNat) IntKind.i64.bits = 8 * s.toNat := by show min _ 64 = _; omega
    have hne : (Int.fdiv n (2 ^ (8 * s.toNat)) != 0) = true := by
      rw [fdiv_pos _ _ (by omega)]
      have hp : (0 : Int) < 2 ^ (8 * s.toNat) := Int.pow_pos (by decide)
      have : 1 ≤ n / 2 ^ (8 * s.toNat) := (Int.le_ediv_iff_mul_le hp).2 (by omega)
      simp; omega
    rw [if_neg (by simpa using hn), if_pos (by omega), hm, hne]
    rfl
theorem put_ok (k : Nat) (b : List Int) (n : Int) (s : Nat) (hb : b.length ≤ 140737488351232) (h1 : 1 ≤ s) (h4 : s ≤ 4) (hn : 0 ≤ n) (hlt : n < 2 ^ (8 * s)) : cursor_Put.f (k + 5) b n (s : Int) = some (b ++ putL n s, 0) := by
  unfold cursor_Put.f
  have : ¬ (if decide ((s : Int) < 1) = true then true else decide ((s : Int) > 4)) = true := by simp; omega
  rw [if_neg this]
  have e : IntKind.i64.wrap ((8 : Int) * (s : Int)) = 8 * (s : Int) := by rw [IntKind.wrap_i64]; omega
  have e2 : IntKind.i64.wrap ((8 : Int) * IntKind.i64.wrap ((s : Int) - 1)) = 8 * ((s : Int) - 1) := by rw [IntKind.wrap_i64, IntKind.wrap_i64]; omega
  rw [e, e2]
  have hm : min ((8 * (s : Int)).toNat) IntKind.i64.bits = 8 * s := by show min _ 64 = _; omega
  have hz : (Int.fdiv n (2 ^ (8 * s)) != 0) = false := by
    rw [fdiv_pos _ _ hn, Int.ediv_eq_zero_of_lt hn hlt]; rfl
  rw [if_neg (by simpa using hn), if_pos (by omega), hm, hz, Option.bind_some, if_neg (by simp), clone_ok _ (by omega), Option.bind_some]
  rcases (show s = 1 ∨ s = 2 ∨ s = 3 ∨ s = 4 by omega) with rfl | rfl | rfl | rfl
  · have := put_step n hn (k + 4) b 0 (by omega) (by omega)
    rw [show (8 : Int) * ((1 : Nat) - 1) = ((0 : Nat) : Int) from rfl, this, put_end _ _ _ _ (by omega)]
    simp [putL]
  · have s1 := put_step n hn (k + 4) b 8 (by omega) (by omega)
    have s2 := put_step n hn (k + 3) (b ++ [n / 2 ^ 8 % 256]) 0 (by omega) (by simp; omega)
    rw [show (8 : Int) * ((2 : Nat) - 1) = ((8 : Nat) : Int) from rfl, s1, show ((8 : Nat) : Int) - 8 = ((0 : Nat) : Int) from rfl, s2, put_end _ _ _ _ (by omega)]
    simp [putL]
  · have s1 := put_step n hn (k + 4) b 16 (by omega) (by omega)
    have s2 := put_step n hn (k + 3) (b ++ [n / 2 ^ 16 % 256]) 8 (by omega) (by simp; omega)
    have s3 := put_step n hn (k + 2) (b ++ [n / 2 ^ 16 % 256] ++ [n / 2 ^ 8 % 256]) 0 (by omega) (by simp; omega)
    rw [show (8 : Int) * ((3 : Nat) - 1) = ((16 : Nat) : Int) from rfl, s1, show ((16 : Nat) : Int) - 8 = ((8 : Nat) : Int) from rfl, s2, show ((8 : Nat) : Int) - 8 = ((0 : Nat) : Int) from rfl, s3, put_end _ _ _ _ (by omega)]
    simp [putL]
  · have s1 := put_step n hn (k + 4) b 24 (by omega) (by omega)
    have s2 := put_step n hn (k + 3) (b ++ [n / 2 ^ 24 % 256]) 16 (by omega) (by simp; omega)
    have s3 := put_step n hn (k + 2) (b ++ [n / 2 ^ 24 % 256] ++ [n / 2 ^ 16 % 256]) 8 (by omega) (by simp; omega)
    have s4 := put_step n hn (k + 1) (b ++ [n / 2 ^ 24 % 256] ++ [n / 2 ^ 16 % 256] ++ [n / 2 ^ 8 % 256]) 0 (by omega) (by simp; omega)
    rw [show (8 : Int) * ((4 : Nat) - 1) = ((24 : Nat) : Int) from rfl, s1, show ((24 : Nat) : Int) - 8 = ((16 : Nat) : Int) from rfl, s2, show ((16 : Nat) : Int) - 8 = ((8 : Nat) : Int) from rfl, s3, show ((8 : Nat) : Int) - 8 = ((0 : Nat) : Int) from rfl, s4, put_end _ _ _ _ (by omega)]
    simp [putL]
theorem or_step (x c : Int) (hx : 0 ≤ x) (hx2 : x < 72057594037927936) (hc : 0 ≤ c) (hc2 : c ≤ 255) :
    IntKind.i64.wrap (BitVec.ofInt IntKind.i64.bits (IntKind.i64.wrap (x * 2 ^ (min (8 : Int).toNat IntKind.i64.bits))) ||| BitVec.ofInt IntKind.i64.bits (IntKind.i64.wrap c)).toNat = IntKind.i64.wrap (x * 256 + c) := by
  obtain ⟨a, rfl⟩ := Int.eq_ofNat_of_zero_le hx
  obtain ⟨d, rfl⟩ := Int.eq_ofNat_of_zero_le hc
  congr 1
  have e1 : (BitVec.ofInt IntKind.i64.bits (IntKind.i64.wrap ((a : Int) * 2 ^ (min (8 : Int).toNat IntKind.i64.bits)))).toNat = 2 ^ 8 * a := by
    have : ((a : Int) * 2 ^ (min (8 : Int).toNat IntKind.i64.bits)) = (a : Int) * 256 := rfl
    rw [this, IntKind.wrap_i64, BitVec.toNat_ofInt]
    show (_ % ((2 ^ 64 : Nat) : Int)).toNat = _
    omega
  have e2 : (BitVec.ofInt IntKind.i64.bits (IntKind.i64.wrap (d : Int))).toNat = d := by
    rw [IntKind.wrap_i64, BitVec.toNat_ofInt]
    show (_ % ((2 ^ 64 : Nat) : Int)).toNat = _
    omega
  rw [BitVec.toNat_or, e1, e2, ← Nat.two_pow_add_eq_or_of_lt (by omega : d < 2 ^ 8)]
  omega
theorem numL_cons (c : Int) (l : List Int) (x : Int) (hx : 0 ≤ x) (hx2 : x < 4294967296) (hc : 0 ≤ c) (hc2 : c ≤ 255) : numL (c :: l) x = numL l (x * 256 + c) := by
  rw [numL, or_step x c hx (by omega) hc hc2]
  congr 1
  rw [IntKind.wrap_i64]; omega
theorem num_put (n : Int) (s : Nat) (h1 : 1 ≤ s) (h4 : s ≤ 4) (hn : 0 ≤ n) (hlt : n < 2 ^ (8 * s)) : numL (putL n s) 0 = n := by
  rcases (show s = 1 ∨ s = 2 ∨ s = 3 ∨ s = 4 by omega) with rfl | rfl | rfl | rfl <;> simp only [putL]
  · have : n < 256 := hlt
    rw [numL_cons _ _ _ (by omega) (by omega) (by omega) (by omega), numL]; omega
  · have : n < 65536 := hlt
    rw [numL_cons _ _ _ (by omega) (by omega) (by omega) (by omega), numL_cons _ _ _ (by omega) (by omega) (by omega) (by omega), numL]; omega
  · have : n < 16777216 := hlt
    rw [numL_cons _ _ _ (by omega) (by omega) (by omega) (by omega), numL_cons _ _ _ (by omega) (by omega) (by omega) (by omega), numL_cons _ _ _ (by omega) (by omega) (by omega) (by omega), numL]; omega
  · have : n < 4294967296 := hlt
    rw [numL_cons _ _ _ (by omega) (by omega) (by omega) (by omega), numL_cons _ _ _ (by omega) (by omega) (by omega) (by omega), numL_cons _ _ _ (by omega) (by omega) (by omega) (by omega), numL_cons _ _ _ (by omega) (by omega) (by omega) (by omega), numL]; omega
theorem putL_length (n : Int) (s : Nat) (h1 : 1 ≤ s) (h4 : s ≤ 4) : (putL n s).length = s := by
  rcases (show s = 1 ∨ s = 2 ∨ s = 3 ∨ s = 4 by omega) with rfl | rfl | rfl | rfl <;> rfl
theorem put_num (l : List Int) (h1 : 1 ≤ l.length) (h4 : l.length ≤ 4) (hl : ∀ y ∈ l, 0 ≤ y ∧ y ≤ 255) : 0 ≤ numL l 0 ∧ numL l 0 < 2 ^ (8 * l.length) ∧ putL (numL l 0) l.length = l := by
  match l, h1, h4, hl with
  | [a], _, _, hl =>
    have ha := hl a (by simp)
    rw [numL_cons _ _ _ (by omega) (by omega) ha.1 ha.2, numL]
    simp only [putL, List.length_cons, List.length_nil]
    exact ⟨by omega, by omega, by congr 1; omega⟩
  | [a, b], _, _, hl =>
    have ha := hl a (by simp); have hb := hl b (by simp)
    rw [numL_cons _ _ _ (by omega) (by omega) ha.1 ha.2, numL_cons _ _ _ (by omega) (by omega) hb.1 hb.2, numL]
    simp only [putL, List.length_cons, List.length_nil]
    exact ⟨by omega, by omega, by congr 1; omega; congr 1; omega⟩
  | [a, b, c], _, _, hl =>
    have ha := hl a (by simp); have hb := hl b (by simp); have hc := hl c (by simp)
    rw [numL_cons _ _ _ (by omega) (by omega) ha.1 ha.2, numL_cons _ _ _ (by omega) (by omega) hb.1 hb.2, numL_cons _ _ _ (by omega) (by omega) hc.1 hc.2, numL]
    simp only [putL, List.length_cons, List.length_nil]
    exact ⟨by omega, by omega, by congr 1; omega; congr 1; omega; congr 1; omega⟩
  | [a, b, c, d], _, _, hl =>
    have ha := hl a (by simp); have hb := hl b (by simp); have hc := hl c (by simp); have hd := hl d (by simp)
    rw [numL_cons _ _ _ (by omega) (by omega) ha.1 ha.2, numL_cons _ _ _ (by omega) (by omega) hb.1 hb.2, numL_cons _ _ _ (by omega) (by omega) hc.1 hc.2, numL_cons _ _ _ (by omega) (by omega) hd.1 hd.2, numL]
    simp only [putL, List.length_cons, List.length_nil]
    exact ⟨by omega, by omega, by congr 1; omega; congr 1; omega; congr 1; omega; congr 1; omega⟩
theorem w64 (n : Int) (h : -9223372036854775808 ≤ n ∧ n ≤ 9223372036854775807) : IntKind.i64.wrap n = n := by rw [IntKind.wrap_i64]; omega
def isB (l : List Int) : Prop := ∀ y ∈ l, 0 ≤ y ∧ y ≤ 255
theorem okL_len {α : Type} {c : Nat} {P : α → Prop} {l : List α} (h : okL c P l) : l.length ≤ 140737488351232 ∨ c = 0 := by
  have := h.1
  unfold reachBytes at this
  rcases Nat.eq_zero_or_pos c with h0 | h0
  · exact .inr h0
  · left
    have : l.length * 1 ≤ l.length * c := Nat.mul_le_mul_left _ h0
    omega
theorem okL_isB {l : List Int} (h : okL 1 (okI .u8) l) : isB l := fun y hy => by
  have := h.2 y hy
  have e1 : IntKind.u8.min = 0 := rfl
  have e2 : IntKind.u8.max = 255 := rfl
  unfold okI at this
  omega
theorem small09 (k : Nat) : vinerylaw09_small.f (k + 20) = some true := by
  unfold vinerylaw09_small.f
  rfl
def lg (f : Int) : Int := IntKind.i64.wrap (BitVec.ofInt IntKind.i64.bits f &&& BitVec.ofInt IntKind.i64.bits (16 : Int)).toNat
def nf (f : Int) : Int := IntKind.i64.wrap (BitVec.ofInt IntKind.i64.bits f &&& ~~~ BitVec.ofInt IntKind.i64.bits (16 : Int)).toNat
def fo (f : Int) : Int := IntKind.u8.wrap (IntKind.i64.wrap (BitVec.ofInt IntKind.i64.bits f ||| BitVec.ofInt IntKind.i64.bits (16 : Int)).toNat)
def flagB (n : Nat) : Bool := decide (0 ≤ nf n ∧ nf n ≤ 255 ∧ lg (nf n) = 0) && (decide (lg n ≠ 0) || decide (nf n = n ∧ 0 ≤ fo n ∧ fo n ≤ 255 ∧ lg (fo n) ≠ 0 ∧ nf (fo n) = n))
theorem flag_all : (List.range 256).all flagB = true := by kernel_rfl
theorem flag_ok (f : Int) (h0 : 0 ≤ f) (h1 : f ≤ 255) : (0 ≤ nf f ∧ nf f ≤ 255 ∧ lg (nf f) = 0) ∧ (lg f = 0 → nf f = f ∧ 0 ≤ fo f ∧ fo f ≤ 255 ∧ lg (fo f) ≠ 0 ∧ nf (fo f) = f) := by
  obtain ⟨n, rfl⟩ := Int.eq_ofNat_of_zero_le h0
  have h := List.all_eq_true.1 flag_all n (List.mem_range.2 (by omega))
  unfold flagB at h
  simp only [Bool.and_eq_true, Bool.or_eq_true, decide_eq_true_eq] at h
  exact ⟨h.1, fun e => h.2.elim (fun q => absurd e q) id⟩
theorem num1 (k : Nat) (c : Int) (t : List Int) (h0 : 0 ≤ c) (h1 : c ≤ 255) : cursor_Reader_Num.f (k + 5) ⟨⟨c :: t, false⟩⟩ 1 = some (c, ⟨⟨t, false⟩⟩) := by
  rw [num_ok k _ 1 rfl (by omega) (by omega) (by simp; omega)]
  show some (numL [c] 0, _) = _
  rw [numL_cons c [] 0 (by omega) (by omega) h0 h1]
  simp [numL]
theorem num2 (k : Nat) (a b : Int) (t : List Int) (h0 : 0 ≤ a) (h1 : a ≤ 255) (h2 : 0 ≤ b) (h3 : b ≤ 255) : cursor_Reader_Num.f (k + 5) ⟨⟨a :: b :: t, false⟩⟩ 2 = some (a * 256 + b, ⟨⟨t, false⟩⟩) := by
  rw [num_ok k _ 2 rfl (by omega) (by omega) (by simp; omega)]
  show some (numL [a, b] 0, _) = _
  rw [numL_cons a [b] 0 (by omega) (by omega) h0 h1, numL_cons b [] _ (by omega) (by omega) h2 h3]
  simp [numL]
def cutV (n : Int) (f kd : Int) (u : List Int) : Option (S_api_Raw × List Int) := if n ≤ u.length then some (⟨nf f, kd, u.take n.toNat⟩, u.drop n.toNat) else none
def step : List Int → Option (S_api_Raw × List Int)
  | f :: kd :: t => if lg f != 0 then (match t with | a :: b :: u => cutV (a * 256 + b) f kd u | _ => none) else (match t with | a :: u => cutV a f kd u | [] => none)
  | _ => none
theorem step_cons (f kd : Int) (t : List Int) : step (f :: kd :: t) = if lg f != 0 then (match t with | a :: b :: u => cutV (a * 256 + b) f kd u | _ => none) else (match t with | a :: u => cutV a f kd u | [] => none) := rfl
def badOut : Option ((List S_api_Raw × Int) ⊕ (List S_api_Raw × List Int × Bool)) := some (.inl ([], 3))
theorem split_step (k kk : Nat) (out : List S_api_Raw) (l : List Int) (h0 : l ≠ []) (hB : isB l) (hl : l.length ≤ 1000000) (ho : out.length < 64) :
    attr_Split.l0 (k + 5) (kk + 1) out l false = match step l with | none => badOut | some (x, r) => attr_Split.l0 (k + 5) kk (out ++ [x]) r false := by
  rw [attr_Split.l0]
  unfold cursor_rest_Left.f cursor_rest_Bad.f
  have hlen : 0 < l.length := List.length_pos_iff.2 h0
  have hpos : decide ((l.length : Int) > 0) = true := by simp; omega
  simp only [Bool.false_eq_true, if_false, Option.bind_some]
  rw [if_pos hpos, if_neg (by simp; omega)]
  obtain ⟨f, t, rfl⟩ : ∃ f t, l = f :: t := by cases l with | nil => exact absurd rfl h0 | cons f t => exact ⟨f, t, rfl⟩
  have hf := hB f (by simp)
  rw [num1 k f t hf.1 hf.2, Option.bind_some]
  show ((cursor_Reader_Num.f (k + 5) ⟨⟨t, false⟩⟩ 1).bind _) = _
  have bad2 : ∀ (left : List Int) (s : Int), cursor_Reader_Num.f (k + 5) ⟨⟨left, true⟩⟩ s = some (0, ⟨⟨left, true⟩⟩) := fun left s => num_bad (k + 4) _ s (.inl rfl)
  have badT : ∀ (left : List Int) (s : Int), cursor_Reader_Take.f ⟨⟨left, true⟩⟩ s = some ([], ⟨⟨left, true⟩⟩) := fun left s => take_bad _ s (.inl rfl)
  cases t with
  | nil =>
    rw [num_bad (k + 4) ⟨⟨[], false⟩⟩ 1 (by right; right; right; simp), Option.bind_some]
    show (((if (lg f != 0) = true then some (2 : Int) else some (1 : Int))).bind _) = badOut
    cases lg f != 0 <;> simp only [Bool.false_eq_true, if_false, if_true, Option.bind_some, bad2, badT] <;> rfl
  | cons kd t =>
    have hk := hB kd (by simp)
    rw [num1 k kd t hk.1 hk.2, Option.bind_some]
    have finish : ∀ (n : Int) (u : List Int), 0 ≤ n → u.length ≤ 1000000 → ((cursor_Reader_Take.f ⟨⟨u, false⟩⟩ n).bind fun t48 => (if t48.2.rest.bad = true then some (.inl ((([] : List S_api_Raw) : List S_api_Raw), ((3 : Int) : Int))) else (if (out.length + ([(⟨nf f, kd, t48.1⟩ : S_api_Raw)] : List S_api_Raw).length) * 40 ≤ 140737488355328 then attr_Split.l0 (k + 5) kk (out ++ ([(⟨nf f, kd, t48.1⟩ : S_api_Raw)] : List S_api_Raw)) t48.2.rest.left t48.2.rest.bad else none))) = match cutV n f kd u with | none => badOut | some (x, r) => attr_Split.l0 (k + 5) kk (out ++ [x]) r false := by
      intro n u hn hu
      unfold cutV
      by_cases h : n ≤ u.length
      · rw [take_ok _ n (by show u.length ≤ _; omega) rfl hn h, Option.bind_some, if_pos h]
        simp only [Option.bind_some, Bool.false_eq_true, if_false]
        rw [if_pos (by simp; omega)]
      · rw [take_bad ⟨⟨u, false⟩⟩ n (by right; right; show n > (u.length : Int); omega), Option.bind_some, if_neg h]
        rfl
    show (((if (lg f != 0) = true then some (2 : Int) else some (1 : Int))).bind _) = _
    rw [step_cons]
    cases hq : lg f != 0
    · simp only [Bool.false_eq_true, if_false, Option.bind_some]
      cases t with
      | nil =>
        rw [num_bad (k + 4) ⟨⟨[], false⟩⟩ 1 (by right; right; right; simp), Option.bind_some]
        simp only [badT, Option.bind_some, if_true]
        rfl
      | cons a u =>
        have ha := hB a (by simp)
        rw [num1 k a u ha.1 ha.2, Option.bind_some]
        exact finish a u ha.1 (by simp at hl; omega)
    · simp only [if_true, Option.bind_some]
      cases t with
      | nil =>
        rw [num_bad (k + 4) ⟨⟨[], false⟩⟩ 2 (by right; right; right; simp), Option.bind_some]
        simp only [badT, Option.bind_some, if_true]
        rfl
      | cons a u =>
        cases u with
        | nil =>
          rw [num_bad (k + 4) ⟨⟨[a], false⟩⟩ 2 (by right; right; right; simp), Option.bind_some]
          simp only [badT, Option.bind_some, if_true]
          rfl
        | cons b u =>
          have ha := hB a (by simp)
          have hb := hB b (by simp)
          rw [num2 k a b u ha.1 ha.2 hb.1 hb.2, Option.bind_some]
          exact finish (a * 256 + b) u (by omega) (by simp at hl; omega)
structure OkF (x : S_api_Raw) : Prop where
  f0 : 0 ≤ x.Flags
  f1 : x.Flags ≤ 255
  fl : lg x.Flags = 0
  k0 : 0 ≤ x.Kind
  k1 : x.Kind ≤ 255
def enc (x : S_api_Raw) : List Int := (if (x.Value.length : Int) > 255 then [fo x.Flags, x.Kind, (x.Value.length : Int) / 256, (x.Value.length : Int) % 256] else [x.Flags, x.Kind, (x.Value.length : Int)]) ++ x.Value
theorem enc_isB (x : S_api_Raw) (h : OkF x) (hl : x.Value.length ≤ 4096) (hB : isB x.Value) : isB (enc x) := by
  have hf := (flag_ok x.Flags h.f0 h.f1).2 h.fl
  have f0 := h.f0
  have f1 := h.f1
  have k0 := h.k0
  have k1 := h.k1
  intro y hy
  unfold enc at hy
  rcases List.mem_append.1 hy with hy | hy
  · split at hy
    · simp at hy; rcases hy with rfl | rfl | rfl | rfl <;> omega
    · simp at hy; rcases hy with rfl | rfl | rfl <;> omega
  · exact hB y hy
theorem step_enc (x : S_api_Raw) (h : OkF x) (hl : x.Value.length ≤ 4096) (r : List Int) : step (enc x ++ r) = some (x, r) := by
  have hf := (flag_ok x.Flags h.f0 h.f1).2 h.fl
  unfold enc
  by_cases hq : (x.Value.length : Int) > 255
  · rw [if_pos hq]
    show step (fo x.Flags :: x.Kind :: ([(x.Value.length : Int) / 256, (x.Value.length : Int) % 256] ++ x.Value ++ r)) = _
    rw [step_cons, if_pos (by simpa using hf.2.2.2.1)]
    show cutV ((x.Value.length : Int) / 256 * 256 + (x.Value.length : Int) % 256) _ _ (x.Value ++ r) = _
    rw [show (x.Value.length : Int) / 256 * 256 + (x.Value.length : Int) % 256 = x.Value.length by omega]
    unfold cutV
    rw [if_pos (by simp; omega), hf.2.2.2.2]
    simp
  · rw [if_neg hq]
    show step (x.Flags :: x.Kind :: ([(x.Value.length : Int)] ++ x.Value ++ r)) = _
    rw [step_cons, if_neg (by simp [h.fl])]
    show cutV (x.Value.length : Int) _ _ (x.Value ++ r) = _
    unfold cutV
    rw [if_pos (by simp; omega), hf.1]
    simp
theorem step_some {l : List Int} {x : S_api_Raw} {r : List Int} (hB : isB l) (h : step l = some (x, r)) : OkF x ∧ isB x.Value ∧ isB r ∧ (enc x).length + r.length ≤ l.length ∧ r.length < l.length := by
  match l, hB, h with
  | [], _, h => cases h
  | [f], _, h => cases h
  | f :: kd :: t, hB, h =>
    have hf := hB f (by simp)
    have hk := hB kd (by simp)
    have hn := (flag_ok f hf.1 hf.2).1
    have key : ∀ (n : Int) (u : List Int), 0 ≤ n → isB u → cutV n f kd u = some (x, r) → OkF x ∧ isB x.Value ∧ isB r ∧ (x.Value.length : Int) = n ∧ x.Value.length + r.length = u.length := by
      intro n u h0 hu hc
      unfold cutV at hc
      by_cases hle : n ≤ u.length
      · rw [if_pos hle] at hc
        obtain ⟨rfl, rfl⟩ := Prod.mk.inj (Option.some.inj hc)
        refine ⟨⟨hn.1, hn.2.1, hn.2.2, hk.1, hk.2⟩, fun y hy => hu y (List.mem_of_mem_take hy), fun y hy => hu y (List.mem_of_mem_drop hy), ?_, ?_⟩
        · simp; omega
        · simp; omega
      · rw [if_neg hle] at hc; cases hc
    rw [step_cons] at h
    by_cases hq : lg f != 0
    · rw [if_pos hq] at h
      match t, hB, h with
      | [], _, h => cases h
      | [a], _, h => cases h
      | a :: b :: u, hB, h =>
        have ha := hB a (by simp)
        have hb := hB b (by simp)
        obtain ⟨q1, q2, q3, q4, q5⟩ := key _ u (by omega) (fun y hy => hB y (by simp [hy])) h
        refine ⟨q1, q2, q3, ?_, by simp; omega⟩
        unfold enc
        rw [List.length_append]
        split <;> simp <;> omega
    · rw [if_neg hq] at h
      match t, hB, h with
      | [], _, h => cases h
      | a :: u, hB, h =>
        have ha := hB a (by simp)
        obtain ⟨q1, q2, q3, q4, q5⟩ := key _ u (by omega) (fun y hy => hB y (by simp [hy])) h
        refine ⟨q1, q2, q3, ?_, by simp; omega⟩
        unfold enc
        rw [List.length_append, if_neg (by omega)]
        simp; omega
theorem encs_isB : ∀ (l : List S_api_Raw), (∀ x ∈ l, OkF x ∧ x.Value.length ≤ 4096 ∧ isB x.Value) → isB (l.flatMap enc) := by
  intro l h y hy
  obtain ⟨x, hx, hy⟩ := List.mem_flatMap.1 hy
  obtain ⟨h1, h2, h3⟩ := h x hx
  exact enc_isB x h1 h2 h3 y hy
theorem enc_len (x : S_api_Raw) (h : x.Value.length ≤ 4096) : (enc x).length ≤ 4100 ∧ 0 < (enc x).length := by
  unfold enc
  rw [List.length_append]
  split <;> simp <;> omega
theorem encs_len : ∀ (l : List S_api_Raw), (∀ x ∈ l, x.Value.length ≤ 4096) → (l.flatMap enc).length ≤ 4100 * l.length
  | [], _ => Nat.le_refl _
  | x :: l, h => by
    have h1 := (enc_len x (h x (by simp))).1
    have h2 := encs_len l (fun y hy => h y (by simp [hy]))
    rw [List.flatMap_cons, List.length_append, List.length_cons]
    omega
theorem split_end (k kk : Nat) (out : List S_api_Raw) : attr_Split.l0 k (kk + 1) out [] false = some (.inr (out, [], false)) := by
  rw [attr_Split.l0]
  rfl
/-- what was written is cut as it was -/
theorem split_enc (k : Nat) : ∀ (l : List S_api_Raw) (kk : Nat) (out : List S_api_Raw), (∀ x ∈ l, OkF x ∧ x.Value.length ≤ 4096 ∧ isB x.Value) → out.length + l.length ≤ 64 → l.length < kk → attr_Split.l0 (k + 5) kk out (l.flatMap enc) false = some (.inr (out ++ l, [], false))
  | [], kk + 1, out, _, _, _ => by rw [List.append_nil]; exact split_end _ _ _
  | x :: l, kk + 1, out, h, ho, hk => by
    have hx := h x (by simp)
    have hl := fun y hy => h y (List.mem_cons_of_mem x hy)
    have hlen := encs_len (x :: l) (fun y hy => (h y hy).2.1)
    simp only [List.length_cons] at ho hk hlen
    rw [split_step k kk out _ (by rw [List.flatMap_cons]; intro e; have := (enc_len x hx.2.1).2; rw [List.append_eq_nil_iff] at e; rw [e.1] at this; exact absurd this (by simp)) (encs_isB _ h) (by omega) (by omega)]
    rw [List.flatMap_cons, step_enc x hx.1 hx.2.1]
    have := split_enc k l kk (out ++ [x]) hl (by simp; omega) (by omega)
    show attr_Split.l0 (k + 5) kk (out ++ [x]) (l.flatMap enc) false = _
    rw [this]; simp
theorem split_any (k : Nat) : ∀ (kk : Nat) (out : List S_api_Raw) (l : List Int), isB l → l.length ≤ 1000000 → l.length < kk → out.length ≤ 64 →
    attr_Split.l0 (k + 5) kk out l false = some (.inl ([], 2)) ∨ attr_Split.l0 (k + 5) kk out l false = some (.inl ([], 3)) ∨
    ∃ ms, attr_Split.l0 (k + 5) kk out l false = some (.inr (out ++ ms, [], false)) ∧ (∀ x ∈ ms, OkF x ∧ isB x.Value) ∧ out.length + ms.length ≤ 64 ∧ (ms.flatMap enc).length ≤ l.length
  | 0, _, _, _, _, hk, _ => absurd hk (Nat.not_lt_zero _)
  | kk + 1, out, l, hB, hl, hk, ho => by
    by_cases h0 : l = []
    · subst h0
      exact .inr (.inr ⟨[], by rw [split_end, List.append_nil], (fun _ h => nomatch h), by simpa using ho, Nat.le_refl _⟩)
    · by_cases h64 : out.length = 64
      · left
        rw [attr_Split.l0]
        unfold cursor_rest_Left.f
        have hlen : 0 < l.length := List.length_pos_iff.2 h0
        simp only [Bool.false_eq_true, if_false, Option.bind_some]
        rw [if_pos (by simp; omega), if_pos (by simp; omega)]
      · rw [split_step k kk out l h0 hB hl (by omega)]
        cases hs : step l with
        | none => exact .inr (.inl rfl)
        | some p =>
          obtain ⟨x, r⟩ := p
          obtain ⟨q1, q2, q3, q4, q5⟩ := step_some hB hs
          rcases split_any k kk (out ++ [x]) r q3 (by omega) (by omega) (by simp; omega) with h | h | ⟨ms, h, h1, h2, h3⟩
          · exact .inl h
          · exact .inr (.inl h)
          · refine .inr (.inr ⟨x :: ms, by show attr_Split.l0 (k + 5) kk (out ++ [x]) r false = _; rw [h]; simp, ?_, ?_, ?_⟩)
            · intro y hy
              rcases List.mem_cons.1 hy with rfl | hy
              · exact ⟨q1, q2⟩
              · exact h1 y hy
            · simp at h2 ⊢; omega
            · rw [List.flatMap_cons, List.length_append]; omega
theorem u8w (n : Int) (h : 0 ≤ n ∧ n ≤ 255) : IntKind.u8.wrap n = n := by rw [IntKind.wrap_u8]; omega
theorem chk (F K : Int) : ∃ b, (if (decide (F < (0 : Int))) = true then some (decide (F < (0 : Int)) : Bool) else (if (decide (F > (255 : Int))) = true then some (decide (F > (255 : Int)) : Bool) else (if ((IntKind.i64.wrap (BitVec.ofInt IntKind.i64.bits F &&& BitVec.ofInt IntKind.i64.bits (16 : Int)).toNat) != (0 : Int)) = true then some ((IntKind.i64.wrap (BitVec.ofInt IntKind.i64.bits F &&& BitVec.ofInt IntKind.i64.bits (16 : Int)).toNat) != (0 : Int) : Bool) else (if (decide (K < (0 : Int))) = true then some (decide (K < (0 : Int)) : Bool) else some (decide (K > (255 : Int)) : Bool))))) = some b ∧ (b = false ↔ (0 ≤ F ∧ F ≤ 255 ∧ lg F = 0 ∧ 0 ≤ K ∧ K ≤ 255)) := by
  show ∃ b, (if (decide (F < (0 : Int))) = true then some (decide (F < (0 : Int)) : Bool) else (if (decide (F > (255 : Int))) = true then some (decide (F > (255 : Int)) : Bool) else (if (lg F != (0 : Int)) = true then some (lg F != (0 : Int) : Bool) else (if (decide (K < (0 : Int))) = true then some (decide (K < (0 : Int)) : Bool) else some (decide (K > (255 : Int)) : Bool))))) = some b ∧ _
  by_cases h1 : F < 0
  · exact ⟨true, by simp [h1], by simp; omega⟩
  · by_cases h2 : F > 255
    · exact ⟨true, by simp [h1, h2], by simp; omega⟩
    · by_cases h3 : lg F = 0
      · by_cases h4 : K < 0
        · exact ⟨true, by simp [h1, h2, h3, h4], by simp; omega⟩
        · by_cases h5 : K > 255
          · exact ⟨true, by simp [h1, h2, h3, h4, h5], by simp; omega⟩
          · exact ⟨false, by simp [h1, h2, h3, h4, h5], by simp; omega⟩
      · exact ⟨true, by simp [h1, h2, h3], by simp [h3]⟩
theorem rdR (l : List S_api_Raw) (i : Nat) (hi : i < l.length) : rd l (i : Int) = l[i] := by simp [rd, List.getD, hi]
theorem join_l0 (k : Nat) (l : List S_api_Raw) (h64 : l.length ≤ 64) : ∀ (m kk i : Nat) (out : List Int), i + m = l.length → m < kk → out.length ≤ 4100 * i →
    (attr_Join.l0 (k + 5) l kk out (i : Int) = some (.inr (out ++ (l.drop i).flatMap enc)) ∧ ∀ x ∈ l.drop i, OkF x ∧ x.Value.length ≤ 4096) ∨ (attr_Join.l0 (k + 5) l kk out (i : Int) = some (.inl ([], 1)) ∧ ∃ x ∈ l, ¬ OkF x) ∨ attr_Join.l0 (k + 5) l kk out (i : Int) = some (.inl ([], 2))
  | 0, kk + 1, i, out, h, _, _ => by
    left
    rw [attr_Join.l0, if_neg (by simp; omega), List.drop_of_length_le (by omega)]
    exact ⟨by simp, fun _ h => nomatch h⟩
  | m + 1, kk + 1, i, out, h, hk, ho => by
    have hi : i < l.length := by omega
    have e : IntKind.i64.wrap ((i : Int) + 1) = ((i + 1 : Nat) : Int) := by rw [w64 _ (by omega)]; omega
    rw [attr_Join.l0, if_pos (by simp; omega), if_pos ⟨by omega, by omega⟩, rdR l i hi, e, List.drop_eq_getElem_cons hi]
    generalize hx : l[i] = x
    have hxl : x ∈ l := by rw [← hx]; exact List.getElem_mem hi
    obtain ⟨b, hb, hb2⟩ := chk x.Flags x.Kind
    rw [hb, Option.bind_some]
    cases b with
    | true =>
      right; left
      refine ⟨by simp, x, hxl, fun o => ?_⟩
      have := hb2.2 ⟨o.f0, o.f1, o.fl, o.k0, o.k1⟩
      cases this
    | false =>
      have q := hb2.1 rfl
      have ok : OkF x := ⟨q.1, q.2.1, q.2.2.1, q.2.2.2.1, q.2.2.2.2⟩
      have hf := (flag_ok x.Flags q.1 q.2.1).2 q.2.2.1
      simp only [Bool.false_eq_true, if_false]
      by_cases hv : (x.Value.length : Int) > 4096
      · right; right
        rw [if_pos (by simpa using hv)]
      · rw [if_neg (by simpa using hv)]
        have fin : ∀ out2 : List Int, out2 = out ++ enc x → (attr_Join.l0 (k + 5) l kk out2 ((i + 1 : Nat) : Int) = some (.inr (out ++ (x :: l.drop (i + 1)).flatMap enc)) ∧ ∀ z ∈ x :: l.drop (i + 1), OkF z ∧ z.Value.length ≤ 4096) ∨ (attr_Join.l0 (k + 5) l kk out2 ((i + 1 : Nat) : Int) = some (.inl ([], 1)) ∧ ∃ x ∈ l, ¬ OkF x) ∨ attr_Join.l0 (k + 5) l kk out2 ((i + 1 : Nat) : Int) = some (.inl ([], 2)) := by
          rintro out2 rfl
          have hlen := (enc_len x (by omega)).1
          rcases join_l0 k l h64 m kk (i + 1) (out ++ enc x) (by omega) (by omega) (by rw [List.length_append]; omega) with ⟨h1, h2⟩ | h | h
          · left
            refine ⟨by rw [h1, List.flatMap_cons, List.append_assoc], ?_⟩
            intro z hz
            rcases List.mem_cons.1 hz with rfl | hz
            · exact ⟨ok, by omega⟩
            · exact h2 z hz
          · exact .inr (.inl h)
          · exact .inr (.inr h)
        by_cases h255 : (x.Value.length : Int) > 255
        · rw [if_pos (by simpa using h255), if_pos (by simp; omega)]
          have hp := put_ok k (out ++ ([IntKind.u8.wrap (IntKind.i64.wrap (BitVec.ofInt IntKind.i64.bits (x.Flags) ||| BitVec.ofInt IntKind.i64.bits (16 : Int)).toNat), IntKind.u8.wrap (x.Kind)] : List Int)) (x.Value.length : Int) 2 (by simp; omega) (by omega) (by omega) (by omega) (by omega)
          rw [show (2 : Int) = ((2 : Nat) : Int) from rfl, hp, Option.bind_some]
          rw [if_pos (by simp [putL]; omega)]
          refine fin _ ?_
          unfold enc
          rw [if_pos h255, u8w x.Kind ⟨q.2.2.2.1, q.2.2.2.2⟩]
          have e1 : (x.Value.length : Int) / 256 % 256 = (x.Value.length : Int) / 256 := by omega
          simp only [putL, e1, fo, List.append_assoc, List.cons_append, List.nil_append]
        · rw [if_neg (by simpa using h255), if_pos (by simp; omega), if_pos (by simp; omega)]
          refine fin _ ?_
          unfold enc
          rw [if_neg h255, u8w x.Kind ⟨q.2.2.2.1, q.2.2.2.2⟩, u8w x.Flags ⟨q.1, q.2.1⟩, u8w (x.Value.length : Int) (by omega), List.append_assoc]
theorem join_any (k : Nat) (l : List S_api_Raw) :
    (attr_Join.f (k + 105) l = some (l.flatMap enc, 0) ∧ l.length ≤ 64 ∧ ∀ x ∈ l, OkF x ∧ x.Value.length ≤ 4096) ∨ (attr_Join.f (k + 105) l = some ([], 1) ∧ ∃ x ∈ l, ¬ OkF x) ∨ attr_Join.f (k + 105) l = some ([], 2) := by
  unfold attr_Join.f
  by_cases h : (l.length : Int) > 64
  · right; right
    rw [if_pos (by simpa using h)]
  · rw [if_neg (by simpa using h)]
    rcases join_l0 (k + 100) l (by omega) l.length (k + 105) 0 [] (by omega) (by omega) (by simp) with ⟨h1, h2⟩ | ⟨h1, h2⟩ | h1
    · left
      rw [show attr_Join.l0 (k + 105) l (k + 105) [] 0 = _ from h1, Option.bind_some]
      exact ⟨by simp, by omega, by simpa using h2⟩
    · right; left
      rw [show attr_Join.l0 (k + 105) l (k + 105) [] 0 = _ from h1, Option.bind_some]
      exact ⟨rfl, h2⟩
    · right; right
      rw [show attr_Join.l0 (k + 105) l (k + 105) [] 0 = _ from h1, Option.bind_some]
theorem same_l0 (l : List S_api_Raw) (hl : l.length ≤ 100) : ∀ (m kk i : Nat), i + m = l.length → m < kk → vineryref09_SameRaws.l0 l l kk (i : Int) = some (.inr ())
  | 0, kk + 1, i, h, _ => by rw [vineryref09_SameRaws.l0, if_neg (by simp; omega)]
  | m + 1, kk + 1, i, h, hk => by
    have hi : i < l.length := by omega
    have e : IntKind.i64.wrap ((i : Int) + 1) = ((i + 1 : Nat) : Int) := by rw [w64 _ (by omega)]; omega
    have hr : 0 ≤ (i : Int) ∧ (i : Int) < (l.length : Int) := by omega
    rw [vineryref09_SameRaws.l0, if_pos (by simp; omega), e]
    simp only [if_pos hr, bne_self_eq_false, Bool.false_eq_true, if_false, BEq.rfl, Bool.not_true, Option.bind_some]
    exact same_l0 l hl m kk (i + 1) (by omega) (by omega)
theorem same_f (k : Nat) (l : List S_api_Raw) (hl : l.length ≤ 100) (hk : 200 ≤ k) : vineryref09_SameRaws.f k l l = some true := by
  unfold vineryref09_SameRaws.f
  rw [if_neg (by simp), show vineryref09_SameRaws.l0 l l k 0 = _ from same_l0 l hl l.length k 0 (by omega) (by omega), Option.bind_some]
theorem few_l0 (l : List S_api_Raw) (hl : l.length ≤ 140737488351232) : ∀ (m kk i : Nat), i + m = l.length → m < kk → ∃ r, vinerylaw09_fewRaws.l0 l kk (i : Int) = some r
  | 0, kk + 1, i, h, _ => ⟨.inr (), by rw [vinerylaw09_fewRaws.l0, if_neg (by simp; omega)]⟩
  | m + 1, kk + 1, i, h, hk => by
    have e : IntKind.i64.wrap ((i : Int) + 1) = ((i + 1 : Nat) : Int) := by rw [w64 _ (by omega)]; omega
    rw [vinerylaw09_fewRaws.l0, if_pos (by simp; omega), if_pos ⟨by omega, by omega⟩, e]
    by_cases hv : decide (((rd l (i : Int)).Value.length : Int) > 8192) = true
    · exact ⟨.inl false, by rw [if_pos hv]⟩
    · rw [if_neg hv]
      exact few_l0 l hl m kk (i + 1) (by omega) (by omega)
theorem few_f (k : Nat) (l : List S_api_Raw) (hl : l.length ≤ 140737488351232) (hk : l.length < k) : ∃ b, vinerylaw09_fewRaws.f k l = some b := by
  obtain ⟨r, hr⟩ := few_l0 l hl l.length k 0 (by omega) hk
  unfold vinerylaw09_fewRaws.f
  rw [show vinerylaw09_fewRaws.l0 l k 0 = _ from hr, Option.bind_some]
  cases r with
  | inl b => exact ⟨b, rfl⟩
  | inr u => exact ⟨_, rfl⟩
theorem splitf_enc (k : Nat) (l : List S_api_Raw) (h : ∀ x ∈ l, OkF x ∧ x.Value.length ≤ 4096 ∧ isB x.Value) (h64 : l.length ≤ 64) : attr_Split.f (k + 105) (l.flatMap enc) = some (l, 0) := by
  have hlen := encs_len l (fun y hy => (h y hy).2.1)
  unfold attr_Split.f cursor_Open.f
  rw [clone_ok _ (by omega)]
  simp only [Option.bind_some]
  rw [show attr_Split.l0 (k + 105) (k + 105) [] (l.flatMap enc) false = _ from split_enc (k + 100) l (k + 105) [] h (by simpa using h64) (by omega), Option.bind_some]
  rfl
theorem splitf_any (k : Nat) (b : List Int) (hB : isB b) (hl : b.length ≤ 1000000) (hk : b.length < k) :
    attr_Split.f (k + 105) b = some ([], 2) ∨ attr_Split.f (k + 105) b = some ([], 3) ∨ ∃ ms, attr_Split.f (k + 105) b = some (ms, 0) ∧ (∀ x ∈ ms, OkF x ∧ isB x.Value) ∧ ms.length ≤ 64 ∧ (ms.flatMap enc).length ≤ b.length := by
  unfold attr_Split.f cursor_Open.f
  rw [clone_ok _ (by omega)]
  simp only [Option.bind_some]
  rcases split_any (k + 100) (k + 105) [] b hB hl (by omega) (by simp) with h | h | ⟨ms, h, h1, h2, h3⟩
  · left; rw [show attr_Split.l0 (k + 105) (k + 105) [] b false = _ from h, Option.bind_some]
  · right; left; rw [show attr_Split.l0 (k + 105) (k + 105) [] b false = _ from h, Option.bind_some]
  · right; right
    exact ⟨ms, by rw [show attr_Split.l0 (k + 105) (k + 105) [] b false = _ from h, Option.bind_some]; rfl, h1, by simpa using h2, h3⟩
theorem AttrJoins.law (b : List Int) (hb : okL 1 (okI .u8) b) (l : List S_api_Raw) (hl : okL 40 okS_api_Raw l) : ∃ k, vinerylaw09_AttrJoins.f k b l = some true := by
  have hB := okL_isB hb
  have hll : l.length ≤ 140737488351232 := by rcases okL_len hl with h | h <;> omega
  have hV : ∀ x ∈ l, isB x.Value := fun x hx => okL_isB (hl.2 x hx).2.2
  refine ⟨(l.length + 20000) + 105, ?_⟩
  unfold vinerylaw09_AttrJoins.f
  obtain ⟨fw, hfw⟩ := few_f ((l.length + 20000) + 105) l hll (by omega)
  rw [small09 (l.length + 20085), Option.bind_some, hfw, Option.bind_some]
  by_cases hc : (if (!fw) = true then true else decide ((b.length : Int) > 16384)) = true
  · rw [if_pos hc]
  rw [if_neg hc]
  have hbl : b.length ≤ 16384 := by
    cases fw
    · simp at hc
    · simp at hc; omega
  generalize hK : l.length + 20000 = K
  have hKb : b.length < K := by omega
  have second : ((attr_Split.f (K + 105) b).bind fun t18 => (if (t18.2 != (0 : Int)) = true then some ((if true = true then ((t18.1.length : Int) == (0 : Int)) else false : Bool)) else (attr_Join.f (K + 105) t18.1).bind fun t25 => (if (t25.2 != (0 : Int)) = true then some ((if true = true then (t25.2 == (2 : Int)) else false : Bool)) else (attr_Split.f (K + 105) t25.1).bind fun t32 => ((if true = true then (if (t32.2 == (0 : Int)) = true then (vineryref09_SameRaws.f (K + 105) t18.1 t32.1).bind fun t38 => (if t38 = true then some (decide ((t25.1.length : Int) ≤ (b.length : Int)) : Bool) else some (false : Bool)) else some (false : Bool)) else some (false : Bool))).bind fun s35 => some ((s35 : Bool))))) = some true := by
    rcases splitf_any K b hB (by omega) hKb with h | h | ⟨ms, h, h1, h2, h3⟩
    · rw [h]; rfl
    · rw [h]; rfl
    · rw [h, Option.bind_some]
      simp only [bne_self_eq_false, Bool.false_eq_true, if_false]
      rcases join_any K ms with ⟨j, _, j2⟩ | ⟨j, x, hx, j2⟩ | j
      · rw [j, Option.bind_some]
        simp only [bne_self_eq_false, Bool.false_eq_true, if_false]
        rw [splitf_enc K ms (fun x hx => ⟨(h1 x hx).1, (j2 x hx).2, (h1 x hx).2⟩) h2, Option.bind_some]
        simp only [BEq.rfl, if_true]
        rw [same_f (K + 105) ms (by omega) (by omega), Option.bind_some]
        have : ((ms.flatMap enc).length : Int) ≤ (b.length : Int) := by omega
        simp only [if_true, this, decide_true, Option.bind_some]
      · exact absurd (h1 x hx).1 j2
      · rw [j]; rfl
  rcases join_any K l with ⟨j, j1, j2⟩ | ⟨j, _⟩ | j
  · rw [j, Option.bind_some]
    simp only [BEq.rfl, if_true]
    rw [splitf_enc K l (fun x hx => ⟨(j2 x hx).1, (j2 x hx).2, hV x hx⟩) j1, Option.bind_some]
    simp only [bne_self_eq_false, Bool.false_eq_true, if_false]
    rw [same_f (K + 105) l (by omega) (by omega), Option.bind_some]
    exact second
  · rw [j, Option.bind_some]
    exact second
  · rw [j, Option.bind_some]
    exact second
end Go.E
