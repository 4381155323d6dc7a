/- The plain law: what the walk computes is true, whatever the input. -/
import Derived.Test.YtoeenagdbjppgaaDoorGenAttrSplits
import Derived.Test.YtoeenagdbjppgaaDoorEngR
set_option linter.unusedVariables false
set_option linter.unusedSimpArgs false
namespace Go.E
theorem clone_ok (l : List Int) (h : l.length ≤ 140737488355328) : bytes_Clone.f l = some l := if_pos h
theorem next_bad (r : S_cursor_rest) (n : Int) (h : r.bad = true ∨ n < 0 ∨ n > r.left.length) : cursor_rest_next.f r n = some ([], ⟨r.left, true⟩) := by
  unfold cursor_rest_next.f
  by_cases hb : r.bad = true
  · simp [hb]
  · by_cases h1 : n < 0
    · simp [hb, h1]
    · have h2 : (r.left.length : Int) < n := by rcases h with h | h | h <;> first | exact absurd h hb | exact absurd h h1 | exact h
      simp [hb, h1, h2]
theorem next_ok (r : S_cursor_rest) (n : Int) (hb : r.bad = false) (h0 : 0 ≤ n) (h1 : n ≤ r.left.length) : cursor_rest_next.f r n = some (r.left.take n.toNat, ⟨r.left.drop n.toNat, false⟩) := by
  unfold cursor_rest_next.f
  have e0 : ¬ n < 0 := by omega
  have e1 : ¬ (r.left.length : Int) < n := by omega
  simp [hb, e0, e1, h0, h1]
theorem take_bad (r : S_cursor_Reader) (n : Int) (h : r.rest.bad = true ∨ n < 0 ∨ n > r.rest.left.length) : cursor_Reader_Take.f r n = some ([], ⟨⟨r.rest.left, true⟩⟩) := by
  unfold cursor_Reader_Take.f
  rw [next_bad _ _ h, Option.bind_some, clone_ok _ (by simp)]
  rfl
theorem take_ok (r : S_cursor_Reader) (n : Int) (hl : r.rest.left.length ≤ 140737488355328) (hb : r.rest.bad = false) (h0 : 0 ≤ n) (h1 : n ≤ r.rest.left.length) :
    cursor_Reader_Take.f r n = some (r.rest.left.take n.toNat, ⟨⟨r.rest.left.drop n.toNat, false⟩⟩) := by
  unfold cursor_Reader_Take.f
  rw [next_ok _ _ hb h0 h1, Option.bind_some, clone_ok _ (by simp; omega)]
  rfl
/-- what a number's bytes come to -/
def numL : List Int → Int → Int
  | [], x => x
  | c :: l, x => numL l (IntKind.i64.wrap (BitVec.ofInt IntKind.i64.bits (IntKind.i64.wrap (x * 2 ^ (min (8 : Int).toNat IntKind.i64.bits))) ||| BitVec.ofInt IntKind.i64.bits (IntKind.i64.wrap c)).toNat)
theorem num_l0 (t : List Int × S_cursor_rest) (hl : t.1.length ≤ 140737488355328) : ∀ (m k i : Nat) (x : Int), m + i = t.1.length → m < k → cursor_Reader_Num.l0 t k x (i : Int) = some (numL (t.1.drop i) x)
  | 0, k + 1, i, x, h, _ => by
    unfold cursor_Reader_Num.l0
    rw [if_neg (by simp; omega), List.drop_of_length_le (by omega)]
    rfl
  | m + 1, k + 1, i, x, h, hk => by
    unfold cursor_Reader_Num.l0
    have hi : i < t.1.length := by omega
    have e : IntKind.i64.wrap ((i : Int) + 1) = ((i + 1 : Nat) : Int) := by rw [IntKind.wrap_i64]; omega
    rw [if_pos (by simpa using hi), if_pos (by omega), e, num_l0 t hl m k (i + 1) _ (by omega) (by omega), List.drop_eq_getElem_cons hi]
    have er : rd t.1 (i : Int) = t.1[i] := by simp [rd, List.getD, hi]
    rw [er]
    rfl
theorem num_bad (k : Nat) (r : S_cursor_Reader) (n : Int) (h : r.rest.bad = true ∨ n < 1 ∨ n > 4 ∨ n > r.rest.left.length) : cursor_Reader_Num.f (k + 1) r n = some (0, ⟨⟨r.rest.left, true⟩⟩) := by
  unfold cursor_Reader_Num.f
  have hl : cursor_Reader_Num.l0 ([], ⟨r.rest.left, true⟩) (k + 1) 0 0 = some 0 := by unfold cursor_Reader_Num.l0; simp
  by_cases hs : n < 1 ∨ n > 4
  · have : (if decide (n < 1) = true then true else decide (n > 4)) = true := by rcases hs with h | h <;> simp [h]
    rw [if_pos this, Option.bind_some, next_bad _ _ (by omega), Option.bind_some, hl]
    rfl
  · have h1 : ¬ n < 1 := fun e => hs (.inl e)
    have h2 : ¬ 4 < n := fun e => hs (.inr e)
    have : ¬ (if decide (n < 1) = true then true else decide (n > 4)) = true := by simp [h1, h2]
    rw [if_neg this, Option.bind_some, next_bad _ _ (by rcases h with h | h | h | h <;> first | exact .inl h | exact absurd h h1 | exact absurd h h2 | exact .inr (.inr h)), Option.bind_some, hl]
    rfl
theorem num_ok (k : Nat) (r : S_cursor_Reader) (n : Int) (hb : r.rest.bad = false) (h1 : 1 ≤ n) (h4 : n ≤ 4) (hn : n ≤ r.rest.left.length) :
    cursor_Reader_Num.f (k + 5) r n = some (numL (r.rest.left.take n.toNat) 0, ⟨⟨r.rest.left.drop n.toNat, false⟩⟩) := by
  unfold cursor_Reader_Num.f
  have e1 : ¬ n < 1 := by omega
  have e4 : ¬ 4 < n := by omega
  rw [if_neg (by simp [e1, e4]), Option.bind_some, next_ok _ _ hb (by omega) hn, Option.bind_some]
  have hl : (r.rest.left.take n.toNat).length ≤ 4 := by simp; omega
  have := num_l0 (r.rest.left.take n.toNat, ⟨r.rest.left.drop n.toNat, false⟩) (by show (r.rest.left.take n.toNat).length ≤ _; omega) (r.rest.left.take n.toNat).length (k + 5) 0 0 rfl (by omega)
  simp only [Int.ofNat_zero, Int.natCast_zero, List.drop_zero] at this
  rw [this]
  rfl
theorem fdiv_pos (n : Int) (d : Nat) (hn : 0 ≤ n) : Int.fdiv n (2 ^ d) = n / (2 ^ d) := Int.fdiv_eq_ediv_of_nonneg _ (Int.le_of_lt (Int.pow_pos (by decide)))
theorem put_step (n : Int) (hn : 0 ≤ n) (k : Nat) (x : List Int) (i : Nat) (hi : i ≤ 32) (hx : x.length + 1 ≤ 140737488355328) :
    cursor_Put.l0 n (k + 1) x (i : Int) = cursor_Put.l0 n k (x ++ [(n / 2 ^ i) % 256]) ((i : Int) - 8) := by
  rw [cursor_Put.l0]
  have h0 : (0 : Int) ≤ (i : Int) := by omega
  have e : IntKind.i64.wrap ((i : Int) - 8) = (i : Int) - 8 := by rw [IntKind.wrap_i64]; omega
  have hm : min ((i : Int).toNat) IntKind.i64.bits = i := by
    show min i 64 = i
    omega
  rw [if_pos (by simp), if_pos h0, if_pos (by simp; omega), e, hm, fdiv_pos _ _ hn, IntKind.wrap_u8]
theorem put_end (n : Int) (k : Nat) (x : List Int) (i : Int) (hi : i < 0) : cursor_Put.l0 n (k + 1) x i = some x := by
  rw [cursor_Put.l0, if_neg (by simp; omega)]
def putL (n : Int) : Nat → List Int
  | 1 => [n % 256]
  | 2 => [n / 256 % 256, n % 256]
  | 3 => [n / 65536 % 256, n / 256 % 256, n % 256]
  | 4 => [n / 16777216 % 256, n / 65536 % 256, n / 256 % 256, n % 256]
  | _ => []
theorem put_ok (k : Nat) (b : List Int) (n : Int) (s : Nat) (hb : b.length ≤ 140737488351232) (h1 : 1 ≤ s) (h4 : s ≤ 4) (hn : 0 ≤ n) (hlt : n < 2 ^ (8 * s)) : cursor_Put.f (k + 5) b n (s : Int) = some (b ++ putL n s, 0) := by
  unfold cursor_Put.f
  have : ¬ (if decide ((s : Int) < 1) = true then true else decide ((s : Int) > 4)) = true := by simp; omega
  rw [if_neg this]
  have e : IntKind.i64.wrap ((8 : Int) * (s : Int)) = 8 * (s : Int) := by rw [IntKind.wrap_i64]; omega
  have e2 : IntKind.i64.wrap ((8 : Int) * IntKind.i64.wrap ((s : Int) - 1)) = 8 * ((s : Int) - 1) := by rw [IntKind.wrap_i64, IntKind.wrap_i64]; omega
  rw [e, e2]
  have hm : min ((8 * (s : Int)).toNat) IntKind.i64.bits = 8 * s := by show min _ 64 = _; omega
  have hz : (Int.fdiv n (2 ^ (8 * s)) != 0) = false := by
    rw [fdiv_pos _ _ hn, Int.ediv_eq_zero_of_lt hn hlt]; rfl
  rw [if_neg (by simpa using hn), if_pos (by omega), hm, hz, Option.bind_some, if_neg (by simp), clone_ok _ (by omega), Option.bind_some]
  rcases (show s = 1 ∨ s = 2 ∨ s = 3 ∨ s = 4 by omega) with rfl | rfl | rfl | rfl
  · have := put_step n hn (k + 4) b 0 (by omega) (by omega)
    rw [show (8 : Int) * ((1 : Nat) - 1) = ((0 : Nat) : Int) from rfl, this, put_end _ _ _ _ (by omega)]
    simp [putL]
  · have s1 := put_step n hn (k + 4) b 8 (by omega) (by omega)
    have s2 := put_step n hn (k + 3) (b ++ [n / 2 ^ 8 % 256]) 0 (by omega) (by simp; omega)
    rw [show (8 : Int) * ((2 : Nat) - 1) = ((8 : Nat) : Int) from rfl, s1, show ((8 : Nat) : Int) - 8 = ((0 : Nat) : Int) from rfl, s2, put_end _ _ _ _ (by omega)]
    simp [putL]
  · have s1 := put_step n hn (k + 4) b 16 (by omega) (by omega)
    have s2 := put_step n hn (k + 3) (b ++ [n / 2 ^ 16 % 256]) 8 (by omega) (by simp; omega)
    have s3 := put_step n hn (k + 2) (b ++ [n / 2 ^ 16 % 256] ++ [n / 2 ^ 8 % 256]) 0 (by omega) (by simp; omega)
    rw [show (8 : Int) * ((3 : Nat) - 1) = ((16 : Nat) : Int) from rfl, s1, show ((16 : Nat) : Int) - 8 = ((8 : Nat) : Int) from rfl, s2, show ((8 : Nat) : Int) - 8 = ((0 : Nat) : Int) from rfl, s3, put_end _ _ _ _ (by omega)]
    simp [putL]
  · have s1 := put_step n hn (k + 4) b 24 (by omega) (by omega)
    have s2 := put_step n hn (k + 3) (b ++ [n / 2 ^ 24 % 256]) 16 (by omega) (by simp; omega)
    have s3 := put_step n hn (k + 2) (b ++ [n / 2 ^ 24 % 256] ++ [n / 2 ^ 16 % 256]) 8 (by omega) (by simp; omega)
    have s4 := put_step n hn (k + 1) (b ++ [n / 2 ^ 24 % 256] ++ [n / 2 ^ 16 % 256] ++ [n / 2 ^ 8 % 256]) 0 (by omega) (by simp; omega)
    rw [show (8 : Int) * ((4 : Nat) - 1) = ((24 : Nat) : Int) from rfl, s1, show ((24 : Nat) : Int) - 8 = ((16 : Nat) : Int) from rfl, s2, show ((16 : Nat) : Int) - 8 = ((8 : Nat) : Int) from rfl, s3, show ((8 : Nat) : Int) - 8 = ((0 : Nat) : Int) from rfl, s4, put_end _ _ _ _ (by omega)]
    simp [putL]
theorem or_step (x c : Int) (hx : 0 ≤ x) (hx2 : x < 72057594037927936) (hc : 0 ≤ c) (hc2 : c ≤ 255) :
    IntKind.i64.wrap (BitVec.ofInt IntKind.i64.bits (IntKind.i64.wrap (x * 2 ^ (min (8 : Int).toNat IntKind.i64.bits))) ||| BitVec.ofInt IntKind.i64.bits (IntKind.i64.wrap c)).toNat = IntKind.i64.wrap (x * 256 + c) := by
  obtain ⟨a, rfl⟩ := Int.eq_ofNat_of_zero_le hx
  obtain ⟨d, rfl⟩ := Int.eq_ofNat_of_zero_le hc
  congr 1
  have e1 : (BitVec.ofInt IntKind.i64.bits (IntKind.i64.wrap ((a : Int) * 2 ^ (min (8 : Int).toNat IntKind.i64.bits)))).toNat = 2 ^ 8 * a := by
    have : ((a : Int) * 2 ^ (min (8 : Int).toNat IntKind.i64.bits)) = (a : Int) * 256 := rfl
    rw [this, IntKind.wrap_i64, BitVec.toNat_ofInt]
    show (_ % ((2 ^ 64 : Nat) : Int)).toNat = _
    omega
  have e2 : (BitVec.ofInt IntKind.i64.bits (IntKind.i64.wrap (d : Int))).toNat = d := by
    rw [IntKind.wrap_i64, BitVec.toNat_ofInt]
    show (_ % ((2 ^ 64 : Nat) : Int)).toNat = _
    omega
  rw [BitVec.toNat_or, e1, e2, ← Nat.two_pow_add_eq_or_of_lt (by omega : d < 2 ^ 8)]
  omega
theorem numL_cons (c : Int) (l : List Int) (x : Int) (hx : 0 ≤ x) (hx2 : x < 4294967296) (hc : 0 ≤ c) (hc2 : c ≤ 255) : numL (c :: l) x = numL l (x * 256 + c) := by
  rw [numL, or_step x c hx (by omega) hc hc2]
  congr 1
  rw [IntKind.wrap_i64]; omega
theorem w64 (n : Int) (h : -9223372036854775808 ≤ n ∧ n ≤ 9223372036854775807) : IntKind.i64.wrap n = n := by rw [IntKind.wrap_i64]; omega
def isB (l : List Int) : Prop := ∀ y ∈ l, 0 ≤ y ∧ y ≤ 255
theorem okL_len {α : Type} {c : Nat} {P : α → Prop} {l : List α} (h : okL c P l) : l.length ≤ 140737488351232 ∨ c = 0 := by
  have := h.1
  unfold reachBytes at this
  rcases Nat.eq_zero_or_pos c with h0 | h0
  · exact .inr h0
  · left
    have : l.length * 1 ≤ l.length * c := Nat.mul_le_mul_left _ h0
    omega
theorem okL_isB {l : List Int} (h : okL 1 (okI .u8) l) : isB l := fun y hy => by
  have := h.2 y hy
  have e1 : IntKind.u8.min = 0 := rfl
  have e2 : IntKind.u8.max = 255 := rfl
  unfold okI at this
  omega
theorem small09 (k : Nat) : vinerylaw09_small.f (k + 20) = some true := by
  unfold vinerylaw09_small.f
  rfl
def lg (f : Int) : Int := IntKind.i64.wrap (BitVec.ofInt IntKind.i64.bits f &&& BitVec.ofInt IntKind.i64.bits (16 : Int)).toNat
def nf (f : Int) : Int := IntKind.i64.wrap (BitVec.ofInt IntKind.i64.bits f &&& ~~~ BitVec.ofInt IntKind.i64.bits (16 : Int)).toNat
def fo (f : Int) : Int := IntKind.u8.wrap (IntKind.i64.wrap (BitVec.ofInt IntKind.i64.bits f ||| BitVec.ofInt IntKind.i64.bits (16 : Int)).toNat)
def flagB (n : Nat) : Bool := decide (0 ≤ nf n ∧ nf n ≤ 255 ∧ lg (nf n) = 0) && (decide (lg n ≠ 0) || decide (nf n = n ∧ 0 ≤ fo n ∧ fo n ≤ 255 ∧ lg (fo n) ≠ 0 ∧ nf (fo n) = n))
theorem flag_all : (List.range 256).all flagB = true := by kernel_rfl
theorem flag_ok (f : Int) (h0 : 0 ≤ f) (h1 : f ≤ 255) : (0 ≤ nf f ∧ nf f ≤ 255 ∧ lg (nf f) = 0) ∧ (lg f = 0 → nf f = f ∧ 0 ≤ fo f ∧ fo f ≤ 255 ∧ lg (fo f) ≠ 0 ∧ nf (fo f) = f) := by
  obtain ⟨n, rfl⟩ := Int.eq_ofNat_of_zero_le h0
  have h := List.all_eq_true.1 flag_all n (List.mem_range.2 (by omega))
  unfold flagB at h
  simp only [Bool.and_eq_true, Bool.or_eq_true, decide_eq_true_eq] at h
  exact ⟨h.1, fun e => h.2.elim (fun q => absurd e q) id⟩
theorem num1 (k : Nat) (c : Int) (t : List Int) (h0 : 0 ≤ c) (h1 : c ≤ 255) : cursor_Reader_Num.f (k + 5) ⟨⟨c :: t, false⟩⟩ 1 = some (c, ⟨⟨t, false⟩⟩) := by
  rw [num_ok k _ 1 rfl (by omega) (by omega) (by simp; omega)]
  show some (numL [c] 0, _) = _
  rw [numL_cons c [] 0 (by omega) (by omega) h0 h1]
  simp [numL]
theorem num2 (k : Nat) (a b : Int) (t : List Int) (h0 : 0 ≤ a) (h1 : a ≤ 255) (h2 : 0 ≤ b) (h3 : b ≤ 255) : cursor_Reader_Num.f (k + 5) ⟨⟨a :: b :: t, false⟩⟩ 2 = some (a * 256 + b, ⟨⟨t, false⟩⟩) := by
  rw [num_ok k _ 2 rfl (by omega) (by omega) (by simp; omega)]
  show some (numL [a, b] 0, _) = _
  rw [numL_cons a [b] 0 (by omega) (by omega) h0 h1, numL_cons b [] _ (by omega) (by omega) h2 h3]
  simp [numL]
def cutV (n : Int) (f kd : Int) (u : List Int) : Option (S_api_Raw × List Int) := if n ≤ u.length then some (⟨nf f, kd, u.take n.toNat⟩, u.drop n.toNat) else none
def step : List Int → Option (S_api_Raw × List Int)
  | f :: kd :: t => if lg f != 0 then (match t with | a :: b :: u => cutV (a * 256 + b) f kd u | _ => none) else (match t with | a :: u => cutV a f kd u | [] => none)
  | _ => none
theorem step_cons (f kd : Int) (t : List Int) : step (f :: kd :: t) = if lg f != 0 then (match t with | a :: b :: u => cutV (a * 256 + b) f kd u | _ => none) else (match t with | a :: u => cutV a f kd u | [] => none) := rfl
def badOut : Option ((List S_api_Raw × Int) ⊕ (List S_api_Raw × List Int × Bool)) := some (.inl ([], 3))
theorem split_step (k kk : Nat) (out : List S_api_Raw) (l : List Int) (h0 : l ≠ []) (hB : isB l) (hl : l.length ≤ 1000000) (ho : out.length < 64) :
    attr_Split.l0 (k + 5) (kk + 1) out l false = match step l with | none => badOut | some (x, r) => attr_Split.l0 (k + 5) kk (out ++ [x]) r false := by
  rw [attr_Split.l0]
  unfold cursor_rest_Left.f cursor_rest_Bad.f
  have hlen : 0 < l.length := List.length_pos_iff.2 h0
  have hpos : decide ((l.length : Int) > 0) = true := by simp; omega
  simp only [Bool.false_eq_true, if_false, Option.bind_some]
  rw [if_pos hpos, if_neg (by simp; omega)]
  obtain ⟨f, t, rfl⟩ : ∃ f t, l = f :: t := by cases l with | nil => exact absurd rfl h0 | cons f t => exact ⟨f, t, rfl⟩
  have hf := hB f (by simp)
  rw [num1 k f t hf.1 hf.2, Option.bind_some]
  show ((cursor_Reader_Num.f (k + 5) ⟨⟨t, false⟩⟩ 1).bind _) = _
  have bad2 : ∀ (left : List Int) (s : Int), cursor_Reader_Num.f (k + 5) ⟨⟨left, true⟩⟩ s = some (0, ⟨⟨left, true⟩⟩) := fun left s => num_bad (k + 4) _ s (.inl rfl)
  have badT : ∀ (left : List Int) (s : Int), cursor_Reader_Take.f ⟨⟨left, true⟩⟩ s = some ([], ⟨⟨left, true⟩⟩) := fun left s => take_bad _ s (.inl rfl)
  cases t with
  | nil =>
    rw [num_bad (k + 4) ⟨⟨[], false⟩⟩ 1 (by right; right; right; simp), Option.bind_some]
    show (((if (lg f != 0) = true then some (2 : Int) else some (1 : Int))).bind _) = badOut
    cases lg f != 0 <;> simp only [Bool.false_eq_true, if_false, if_true, Option.bind_some, bad2, badT] <;> rfl
  | cons kd t =>
    have hk := hB kd (by simp)
    rw [num1 k kd t hk.1 hk.2, Option.bind_some]
    have finish : ∀ (n : Int) (u : List Int), 0 ≤ n → u.length ≤ 1000000 → ((cursor_Reader_Take.f ⟨⟨u, false⟩⟩ n).bind fun t48 => (if t48.2.rest.bad = true then some (.inl ((([] : List S_api_Raw) : List S_api_Raw), ((3 : Int) : Int))) else (if (out.length + ([(⟨nf f, kd, t48.1⟩ : S_api_Raw)] : List S_api_Raw).length) * 40 ≤ 140737488355328 then attr_Split.l0 (k + 5) kk (out ++ ([(⟨nf f, kd, t48.1⟩ : S_api_Raw)] : List S_api_Raw)) t48.2.rest.left t48.2.rest.bad else none))) = match cutV n f kd u with | none => badOut | some (x, r) => attr_Split.l0 (k + 5) kk (out ++ [x]) r false := by
      intro n u hn hu
      unfold cutV
      by_cases h : n ≤ u.length
      · rw [take_ok _ n (by show u.length ≤ _; omega) rfl hn h, Option.bind_some, if_pos h]
        simp only [Option.bind_some, Bool.false_eq_true, if_false]
        rw [if_pos (by simp; omega)]
      · rw [take_bad ⟨⟨u, false⟩⟩ n (by right; right; show n > (u.length : Int); omega), Option.bind_some, if_neg h]
        rfl
    show (((if (lg f != 0) = true then some (2 : Int) else some (1 : Int))).bind _) = _
    rw [step_cons]
    cases hq : lg f != 0
    · simp only [Bool.false_eq_true, if_false, Option.bind_some]
      cases t with
      | nil =>
        rw [num_bad (k + 4) ⟨⟨[], false⟩⟩ 1 (by right; right; right; simp), Option.bind_some]
        simp only [badT, Option.bind_some, if_true]
        rfl
      | cons a u =>
        have ha := hB a (by simp)
        rw [num1 k a u ha.1 ha.2, Option.bind_some]
        exact finish a u ha.1 (by simp at hl; omega)
    · simp only [if_true, Option.bind_some]
      cases t with
      | nil =>
        rw [num_bad (k + 4) ⟨⟨[], false⟩⟩ 2 (by right; right; right; simp), Option.bind_some]
        simp only [badT, Option.bind_some, if_true]
        rfl
      | cons a u =>
        cases u with
        | nil =>
          rw [num_bad (k + 4) ⟨⟨[a], false⟩⟩ 2 (by right; right; right; simp), Option.bind_some]
          simp only [badT, Option.bind_some, if_true]
          rfl
        | cons b u =>
          have ha := hB a (by simp)
          have hb := hB b (by simp)
          rw [num2 k a b u ha.1 ha.2 hb.1 hb.2, Option.bind_some]
          exact finish (a * 256 + b) u (by omega) (by simp at hl; omega)
structure OkF (x : S_api_Raw) : Prop where
  f0 : 0 ≤ x.Flags
  f1 : x.Flags ≤ 255
  fl : lg x.Flags = 0
  k0 : 0 ≤ x.Kind
  k1 : x.Kind ≤ 255
def enc (x : S_api_Raw) : List Int := (if (x.Value.length : Int) > 255 then [fo x.Flags, x.Kind, (x.Value.length : Int) / 256, (x.Value.length : Int) % 256] else [x.Flags, x.Kind, (x.Value.length : Int)]) ++ x.Value
theorem step_some {l : List Int} {x : S_api_Raw} {r : List Int} (hB : isB l) (h : step l = some (x, r)) : OkF x ∧ isB x.Value ∧ isB r ∧ (enc x).length + r.length ≤ l.length ∧ r.length < l.length := by
  match l, hB, h with
  | [], _, h => cases h
  | [f], _, h => cases h
  | f :: kd :: t, hB, h =>
    have hf := hB f (by simp)
    have hk := hB kd (by simp)
    have hn := (flag_ok f hf.1 hf.2).1
    have key : ∀ (n : Int) (u : List Int), 0 ≤ n → isB u → cutV n f kd u = some (x, r) → OkF x ∧ isB x.Value ∧ isB r ∧ (x.Value.length : Int) = n ∧ x.Value.length + r.length = u.length := by
      intro n u h0 hu hc
      unfold cutV at hc
      by_cases hle : n ≤ u.length
      · rw [if_pos hle] at hc
        obtain ⟨rfl, rfl⟩ := Prod.mk.inj (Option.some.inj hc)
        refine ⟨⟨hn.1, hn.2.1, hn.2.2, hk.1, hk.2⟩, fun y hy => hu y (List.mem_of_mem_take hy), fun y hy => hu y (List.mem_of_mem_drop hy), ?_, ?_⟩
        · simp; omega
        · simp; omega
      · rw [if_neg hle] at hc; cases hc
    rw [step_cons] at h
    by_cases hq : lg f != 0
    · rw [if_pos hq] at h
      match t, hB, h with
      | [], _, h => cases h
      | [a], _, h => cases h
      | a :: b :: u, hB, h =>
        have ha := hB a (by simp)
        have hb := hB b (by simp)
        obtain ⟨q1, q2, q3, q4, q5⟩ := key _ u (by omega) (fun y hy => hB y (by simp [hy])) h
        refine ⟨q1, q2, q3, ?_, by simp; omega⟩
        unfold enc
        rw [List.length_append]
        split <;> simp <;> omega
    · rw [if_neg hq] at h
      match t, hB, h with
      | [], _, h => cases h
      | a :: u, hB, h =>
        have ha := hB a (by simp)
        obtain ⟨q1, q2, q3, q4, q5⟩ := key _ u (by omega) (fun y hy => hB y (by simp [hy])) h
        refine ⟨q1, q2, q3, ?_, by simp; omega⟩
        unfold enc
        rw [List.length_append, if_neg (by omega)]
        simp; omega
theorem enc_len (x : S_api_Raw) (h : x.Value.length ≤ 4096) : (enc x).length ≤ 4100 ∧ 0 < (enc x).length := by
  unfold enc
  rw [List.length_append]
  split <;> simp <;> omega
theorem split_end (k kk : Nat) (out : List S_api_Raw) : attr_Split.l0 k (kk + 1) out [] false = some (.inr (out, [], false)) := by
  rw [attr_Split.l0]
  rfl
theorem u8w (n : Int) (h : 0 ≤ n ∧ n ≤ 255) : IntKind.u8.wrap n = n := by rw [IntKind.wrap_u8]; omega
theorem chk (F K : Int) : ∃ b, (if (decide (F < (0 : Int))) = true then some (decide (F < (0 : Int)) : Bool) else (if (decide (F > (255 : Int))) = true then some (decide (F > (255 : Int)) : Bool) else (if ((IntKind.i64.wrap (BitVec.ofInt IntKind.i64.bits F &&& BitVec.ofInt IntKind.i64.bits (16 : Int)).toNat) != (0 : Int)) = true then some ((IntKind.i64.wrap (BitVec.ofInt IntKind.i64.bits F &&& BitVec.ofInt IntKind.i64.bits (16 : Int)).toNat) != (0 : Int) : Bool) else (if (decide (K < (0 : Int))) = true then some (decide (K < (0 : Int)) : Bool) else some (decide (K > (255 : Int)) : Bool))))) = some b ∧ (b = false ↔ (0 ≤ F ∧ F ≤ 255 ∧ lg F = 0 ∧ 0 ≤ K ∧ K ≤ 255)) := by
  show ∃ b, (if (decide (F < (0 : Int))) = true then some (decide (F < (0 : Int)) : Bool) else (if (decide (F > (255 : Int))) = true then some (decide (F > (255 : Int)) : Bool) else (if (lg F != (0 : Int)) = true then some (lg F != (0 : Int) : Bool) else (if (decide (K < (0 : Int))) = true then some (decide (K < (0 : Int)) : Bool) else some (decide (K > (255 : Int)) : Bool))))) = some b ∧ _
  by_cases h1 : F < 0
  · exact ⟨true, by simp [h1], by simp; omega⟩
  · by_cases h2 : F > 255
    · exact ⟨true, by simp [h1, h2], by simp; omega⟩
    · by_cases h3 : lg F = 0
      · by_cases h4 : K < 0
        · exact ⟨true, by simp [h1, h2, h3, h4], by simp; omega⟩
        · by_cases h5 : K > 255
          · exact ⟨true, by simp [h1, h2, h3, h4, h5], by simp; omega⟩
          · exact ⟨false, by simp [h1, h2, h3, h4, h5], by simp; omega⟩
      · exact ⟨true, by simp [h1, h2, h3], by simp [h3]⟩
theorem rdR (l : List S_api_Raw) (i : Nat) (hi : i < l.length) : rd l (i : Int) = l[i] := by simp [rd, List.getD, hi]
theorem same_l0 (l : List S_api_Raw) (hl : l.length ≤ 100) : ∀ (m kk i : Nat), i + m = l.length → m < kk → vineryref09_SameRaws.l0 l l kk (i : Int) = some (.inr ())
  | 0, kk + 1, i, h, _ => by rw [vineryref09_SameRaws.l0, if_neg (by simp; omega)]
  | m + 1, kk + 1, i, h, hk => by
    have hi : i < l.length := by omega
    have e : IntKind.i64.wrap ((i : Int) + 1) = ((i + 1 : Nat) : Int) := by rw [w64 _ (by omega)]; omega
    have hr : 0 ≤ (i : Int) ∧ (i : Int) < (l.length : Int) := by omega
    rw [vineryref09_SameRaws.l0, if_pos (by simp; omega), e]
    simp only [if_pos hr, bne_self_eq_false, Bool.false_eq_true, if_false, BEq.rfl, Bool.not_true, Option.bind_some]
    exact same_l0 l hl m kk (i + 1) (by omega) (by omega)
theorem same_f (k : Nat) (l : List S_api_Raw) (hl : l.length ≤ 100) (hk : 200 ≤ k) : vineryref09_SameRaws.f k l l = some true := by
  unfold vineryref09_SameRaws.f
  rw [if_neg (by simp), show vineryref09_SameRaws.l0 l l k 0 = _ from same_l0 l hl l.length k 0 (by omega) (by omega), Option.bind_some]
theorem few_l0 (l : List S_api_Raw) (hl : l.length ≤ 140737488351232) : ∀ (m kk i : Nat), i + m = l.length → m < kk → ∃ r, vinerylaw09_fewRaws.l0 l kk (i : Int) = some r
  | 0, kk + 1, i, h, _ => ⟨.inr (), by rw [vinerylaw09_fewRaws.l0, if_neg (by simp; omega)]⟩
  | m + 1, kk + 1, i, h, hk => by
    have e : IntKind.i64.wrap ((i : Int) + 1) = ((i + 1 : Nat) : Int) := by rw [w64 _ (by omega)]; omega
    rw [vinerylaw09_fewRaws.l0, if_pos (by simp; omega), if_pos ⟨by omega, by omega⟩, e]
    by_cases hv : decide (((rd l (i : Int)).Value.length : Int) > 8192) = true
    · exact ⟨.inl false, by rw [if_pos hv]⟩
    · rw [if_neg hv]
      exact few_l0 l hl m kk (i + 1) (by omega) (by omega)
theorem few_f (k : Nat) (l : List S_api_Raw) (hl : l.length ≤ 140737488351232) (hk : l.length < k) : ∃ b, vinerylaw09_fewRaws.f k l = some b := by
  obtain ⟨r, hr⟩ := few_l0 l hl l.length k 0 (by omega) hk
  unfold vinerylaw09_fewRaws.f
  rw [show vinerylaw09_fewRaws.l0 l k 0 = _ from hr, Option.bind_some]
  cases r with
  | inl b => exact ⟨b, rfl⟩
  | inr u => exact ⟨_, rfl⟩
theorem rd_at (l : List Int) (i : Nat) (hi : i < l.length) : rd l (i : Int) = l[i] := by simp [rd, List.getD, hi]
/-! the document's Split: the same steps -/
theorem big_go (l : List Int) (hl : ∀ y ∈ l, 0 ≤ y ∧ y ≤ 255) (h4 : l.length ≤ 4) : ∀ (m k i : Nat) (x : Int), i + m = l.length → m < k → 0 ≤ x → x < 256 ^ i → vineryref01_Big.l0 l k x (i : Int) = some (numL (l.drop i) x)
  | 0, k + 1, i, x, hi, _, _, _ => by
    rw [vineryref01_Big.l0, if_neg (by simp; omega), List.drop_of_length_le (by omega)]; rfl
  | m + 1, k + 1, i, x, hi, hk, h0, hx => by
    have hlt : i < l.length := by omega
    have hx3 : x < 16777216 := by
      rcases (show i = 0 ∨ i = 1 ∨ i = 2 ∨ i = 3 by omega) with e | e | e | e <;> rw [e] at hx
      · have : x < 1 := hx
        omega
      · have : x < 256 := hx
        omega
      · have : x < 65536 := hx
        omega
      · exact hx
    have hc := hl l[i] (List.getElem_mem hlt)
    have e : IntKind.i64.wrap ((i : Int) + 1) = ((i + 1 : Nat) : Int) := by rw [w64 _ (by omega)]; omega
    rw [vineryref01_Big.l0, if_pos (by simp; omega), if_pos (by omega), e, rd_at l i hlt, w64 (x * 256) (by omega), w64 l[i] (by omega), w64 (x * 256 + l[i]) (by omega), List.drop_eq_getElem_cons hlt, numL_cons _ _ _ h0 (by omega) hc.1 hc.2]
    refine big_go l hl h4 m k (i + 1) _ (by omega) (by omega) (by omega) ?_
    generalize l[i] = c at hc
    rcases (show i = 0 ∨ i = 1 ∨ i = 2 ∨ i = 3 by omega) with e | e | e | e <;> rw [e] at hx ⊢
    · have : x < 1 := hx
      show _ < (256 : Int)
      omega
    · have : x < 256 := hx
      show _ < (65536 : Int)
      omega
    · have : x < 65536 := hx
      show _ < (16777216 : Int)
      omega
    · have : x < 16777216 := hx
      show _ < (4294967296 : Int)
      omega
theorem big_ok (k : Nat) (l : List Int) (hl : ∀ y ∈ l, 0 ≤ y ∧ y ≤ 255) (h4 : l.length ≤ 4) : vineryref01_Big.f (k + 5) l = some (numL l 0) := by
  unfold vineryref01_Big.f
  have := big_go l hl h4 l.length (k + 5) 0 0 (by omega) (by omega) (by omega) (by decide)
  rw [show vineryref01_Big.l0 l (k + 5) (0 : Int) (0 : Int) = _ from this]; rfl
structure AtR (B : List Int) (A : Int) (l : List Int) : Prop where
  h0 : 0 ≤ A
  h1 : A ≤ B.length
  d : B.drop A.toNat = l
  n : B.length ≤ 1000000
  b : isB l
theorem AtR.len {B : List Int} {A : Int} {l : List Int} (h : AtR B A l) : (l.length : Int) = B.length - A := by
  rw [← h.d, List.length_drop]
  have := h.h0; have := h.h1
  omega
theorem rtake_ok {B : List Int} {A : Int} {l : List Int} (h : AtR B A l) (n : Int) (h0 : 0 ≤ n) (hn : n ≤ l.length) : vineryref01_Reader_Take.f ⟨B, A, false⟩ n = some (l.take n.toNat, ⟨B, A + n, false⟩) ∧ AtR B (A + n) (l.drop n.toNat) := by
  have hl := h.len
  have hA := h.h0; have hA2 := h.h1; have hB := h.n
  have e0 : IntKind.i64.wrap ((B.length : Int) - A) = B.length - A := w64 _ (by omega)
  have e1 : IntKind.i64.wrap (A + n) = A + n := w64 _ (by omega)
  refine ⟨?_, ⟨by omega, by omega, ?_, hB, fun y hy => h.b y (List.mem_of_mem_drop hy)⟩⟩
  · unfold vineryref01_Reader_Take.f
    simp only [e0, e1, Bool.false_eq_true, if_false]
    rw [if_neg (by simp; omega), Option.bind_some, if_neg (by simp; omega), if_pos ⟨hA, by omega, by omega⟩]
    have e2 : (B.take (A + n).toNat).drop A.toNat = l.take n.toNat := by
      rw [List.drop_take, h.d]
      congr 1; omega
    rw [e2, if_pos (by simp; omega)]
    rfl
  · rw [← h.d, List.drop_drop]
    congr 1; omega
theorem rtake_bad {B : List Int} {A : Int} {l : List Int} (h : AtR B A l) (n : Int) (hn : n < 0 ∨ n > l.length) : vineryref01_Reader_Take.f ⟨B, A, false⟩ n = some ([], ⟨B, A, true⟩) := by
  have hl := h.len
  have hA := h.h0; have hA2 := h.h1; have hB := h.n
  have e0 : IntKind.i64.wrap ((B.length : Int) - A) = B.length - A := w64 _ (by omega)
  unfold vineryref01_Reader_Take.f
  simp only [e0, Bool.false_eq_true, if_false]
  by_cases h0 : n < 0
  · rw [if_pos (by simpa using h0), Option.bind_some, if_pos rfl]
  · rw [if_neg (by simpa using h0), Option.bind_some, if_pos (by simp; omega)]
theorem rtake_no (B : List Int) (A n : Int) : vineryref01_Reader_Take.f ⟨B, A, true⟩ n = some ([], ⟨B, A, true⟩) := rfl
theorem rnum_ok {B : List Int} {A : Int} {l : List Int} (h : AtR B A l) (k : Nat) (n : Int) (h1 : 1 ≤ n) (h4 : n ≤ 4) (hn : n ≤ l.length) : vineryref01_Reader_Num.f (k + 5) ⟨B, A, false⟩ n = some (numL (l.take n.toNat) 0, ⟨B, A + n, false⟩) ∧ AtR B (A + n) (l.drop n.toNat) := by
  obtain ⟨e, e2⟩ := rtake_ok h n (by omega) hn
  refine ⟨?_, e2⟩
  unfold vineryref01_Reader_Num.f
  rw [if_neg (by simp; omega), e]
  simp only [Option.bind_some]
  rw [big_ok k _ (fun y hy => h.b y (List.mem_of_mem_take hy)) (by simp; omega)]
  rfl
theorem rnum_of_bad {B : List Int} {A : Int} (k : Nat) (n : Int) (h1 : 1 ≤ n) (h4 : n ≤ 4) (b : Bool) (h : vineryref01_Reader_Take.f ⟨B, A, b⟩ n = some ([], ⟨B, A, true⟩)) : vineryref01_Reader_Num.f (k + 5) ⟨B, A, b⟩ n = some (0, ⟨B, A, true⟩) := by
  unfold vineryref01_Reader_Num.f
  rw [if_neg (by simp; omega), h]
  simp only [Option.bind_some]
  rw [big_ok k [] (by simp) (by simp)]
  rfl
theorem rnum_bad {B : List Int} {A : Int} {l : List Int} (h : AtR B A l) (k : Nat) (n : Int) (h1 : 1 ≤ n) (h4 : n ≤ 4) (hn : n > l.length) : vineryref01_Reader_Num.f (k + 5) ⟨B, A, false⟩ n = some (0, ⟨B, A, true⟩) := rnum_of_bad k n h1 h4 _ (rtake_bad h n (.inr hn))
theorem rnum_no (B : List Int) (A : Int) (k : Nat) (n : Int) (h1 : 1 ≤ n) (h4 : n ≤ 4) : vineryref01_Reader_Num.f (k + 5) ⟨B, A, true⟩ n = some (0, ⟨B, A, true⟩) := rnum_of_bad k n h1 h4 _ (rtake_no B A n)
theorem rnum1 {B : List Int} {A : Int} {c : Int} {t : List Int} (h : AtR B A (c :: t)) (k : Nat) : vineryref01_Reader_Num.f (k + 5) ⟨B, A, false⟩ 1 = some (c, ⟨B, A + 1, false⟩) ∧ AtR B (A + 1) t := by
  obtain ⟨e, e2⟩ := rnum_ok h k 1 (by omega) (by omega) (by simp; omega)
  refine ⟨?_, e2⟩
  rw [e]
  have hc := h.b c (by simp)
  show some (numL [c] 0, _) = _
  rw [numL_cons c [] 0 (by omega) (by omega) hc.1 hc.2]
  simp [numL]
theorem rnum2 {B : List Int} {A : Int} {a b : Int} {t : List Int} (h : AtR B A (a :: b :: t)) (k : Nat) : vineryref01_Reader_Num.f (k + 5) ⟨B, A, false⟩ 2 = some (a * 256 + b, ⟨B, A + 2, false⟩) ∧ AtR B (A + 2) t := by
  obtain ⟨e, e2⟩ := rnum_ok h k 2 (by omega) (by omega) (by simp; omega)
  refine ⟨?_, e2⟩
  rw [e]
  have ha := h.b a (by simp)
  have hb := h.b b (by simp)
  show some (numL [a, b] 0, _) = _
  rw [numL_cons a [b] 0 (by omega) (by omega) ha.1 ha.2, numL_cons b [] _ (by omega) (by omega) hb.1 hb.2]
  simp [numL]
def rbadOut : Option ((List S_api_Raw × Int) ⊕ (List S_api_Raw × List Int × Int × Bool)) := some (.inl ([], 3))
theorem rleft {B : List Int} {A : Int} {l : List Int} (h : AtR B A l) : vineryref01_Reader_Left.f ⟨B, A, false⟩ = some (l.length : Int) := by
  unfold vineryref01_Reader_Left.f
  have hl := h.len
  have hA := h.h0; have hA2 := h.h1; have hB := h.n
  simp only [Bool.false_eq_true, if_false]
  rw [w64 _ (by omega), hl]
theorem rsplit_step (k kk : Nat) (out : List S_api_Raw) {B : List Int} {A : Int} {l : List Int} (h : AtR B A l) (h0 : l ≠ []) (ho : out.length < 64) :
    (step l = none ∧ vineryref09_Split.l0 (k + 5) (kk + 1) out B A false = rbadOut) ∨ ∃ x r A', step l = some (x, r) ∧ AtR B A' r ∧ vineryref09_Split.l0 (k + 5) (kk + 1) out B A false = vineryref09_Split.l0 (k + 5) kk (out ++ [x]) B A' false := by
  rw [vineryref09_Split.l0, rleft h]
  have hlen : 0 < l.length := List.length_pos_iff.2 h0
  have hpos : decide ((l.length : Int) > 0) = true := by simp; omega
  simp only [Option.bind_some]
  rw [if_pos hpos, if_neg (by simp; omega)]
  obtain ⟨f, t, rfl⟩ : ∃ f t, l = f :: t := by cases l with | nil => exact absurd rfl h0 | cons f t => exact ⟨f, t, rfl⟩
  obtain ⟨e1, g1⟩ := rnum1 h k
  rw [e1]
  simp only [Option.bind_some]
  show (step (f :: t) = none ∧ ((vineryref01_Reader_Num.f (k + 5) ⟨B, A + 1, false⟩ 1).bind _) = rbadOut) ∨ ∃ x r A', step (f :: t) = some (x, r) ∧ AtR B A' r ∧ ((vineryref01_Reader_Num.f (k + 5) ⟨B, A + 1, false⟩ 1).bind _) = _
  cases t with
  | nil =>
    left
    refine ⟨rfl, ?_⟩
    rw [rnum_bad g1 k 1 (by omega) (by omega) (by simp)]
    simp only [Option.bind_some]
    show (((if (lg f != 0) = true then some (2 : Int) else some (1 : Int))).bind _) = rbadOut
    cases lg f != 0 <;> simp only [Bool.false_eq_true, if_false, if_true, Option.bind_some] <;> rw [rnum_no _ _ k _ (by omega) (by omega)] <;> rfl
  | cons kd t =>
    obtain ⟨e2, g2⟩ := rnum1 g1 k
    rw [e2]
    simp only [Option.bind_some]
    have finish : ∀ (n : Int) (u : List Int) (A2 : Int), 0 ≤ n → AtR B A2 u → (cutV n f kd u = none ∧ ((vineryref01_Reader_Take.f ⟨B, A2, false⟩ n).bind fun t42 => (if t42.2.No = true then some (.inl ((([] : List S_api_Raw) : List S_api_Raw), ((3 : Int) : Int))) else (if (out.length + ([(⟨nf f, kd, t42.1⟩ : S_api_Raw)] : List S_api_Raw).length) * 40 ≤ 140737488355328 then vineryref09_Split.l0 (k + 5) kk (out ++ ([(⟨nf f, kd, t42.1⟩ : S_api_Raw)] : List S_api_Raw)) t42.2.B t42.2.At t42.2.No else none))) = rbadOut) ∨ ∃ x r A', cutV n f kd u = some (x, r) ∧ AtR B A' r ∧ ((vineryref01_Reader_Take.f ⟨B, A2, false⟩ n).bind fun t42 => (if t42.2.No = true then some (.inl ((([] : List S_api_Raw) : List S_api_Raw), ((3 : Int) : Int))) else (if (out.length + ([(⟨nf f, kd, t42.1⟩ : S_api_Raw)] : List S_api_Raw).length) * 40 ≤ 140737488355328 then vineryref09_Split.l0 (k + 5) kk (out ++ ([(⟨nf f, kd, t42.1⟩ : S_api_Raw)] : List S_api_Raw)) t42.2.B t42.2.At t42.2.No else none))) = vineryref09_Split.l0 (k + 5) kk (out ++ [x]) B A' false := by
      intro n u A2 hn hu
      unfold cutV
      by_cases hle : n ≤ u.length
      · obtain ⟨e3, g3⟩ := rtake_ok hu n hn hle
        right
        refine ⟨_, _, A2 + n, by rw [if_pos hle], g3, ?_⟩
        rw [e3]
        simp only [Option.bind_some, Bool.false_eq_true, if_false]
        rw [if_pos (by simp; omega)]
      · left
        rw [if_neg hle, rtake_bad hu n (.inr (by omega))]
        exact ⟨rfl, rfl⟩
    show (step (f :: kd :: t) = none ∧ (((if (lg f != 0) = true then some (2 : Int) else some (1 : Int))).bind _) = rbadOut) ∨ ∃ x r A', step (f :: kd :: t) = some (x, r) ∧ AtR B A' r ∧ (((if (lg f != 0) = true then some (2 : Int) else some (1 : Int))).bind _) = _
    rw [step_cons]
    cases hq : lg f != 0
    · simp only [Bool.false_eq_true, if_false, Option.bind_some]
      cases t with
      | nil =>
        left
        refine ⟨rfl, ?_⟩
        rw [rnum_bad g2 k 1 (by omega) (by omega) (by simp)]
        rfl
      | cons a u =>
        obtain ⟨e3, g3⟩ := rnum1 g2 k
        rw [e3]
        simp only [Option.bind_some]
        exact finish a u _ (h.b a (by simp)).1 g3
    · simp only [if_true, Option.bind_some]
      cases t with
      | nil =>
        left
        refine ⟨rfl, ?_⟩
        rw [rnum_bad g2 k 2 (by omega) (by omega) (by simp)]
        rfl
      | cons a u =>
        cases u with
        | nil =>
          left
          refine ⟨rfl, ?_⟩
          rw [rnum_bad g2 k 2 (by omega) (by omega) (by simp)]
          rfl
        | cons b u =>
          obtain ⟨e3, g3⟩ := rnum2 g2 k
          rw [e3]
          simp only [Option.bind_some]
          have ha := (h.b a (by simp)).1
          have hb := (h.b b (by simp)).1
          exact finish (a * 256 + b) u _ (by omega) g3
/-- both cut alike -/
theorem split_both (k : Nat) (B : List Int) : ∀ (kk : Nat) (out : List S_api_Raw) (l : List Int) (A : Int), AtR B A l → l.length < kk → out.length ≤ 64 →
    (∃ r, attr_Split.l0 (k + 5) kk out l false = some (.inl r) ∧ vineryref09_Split.l0 (k + 5) kk out B A false = some (.inl r) ∧ r.1 = []) ∨
    ∃ ms l' b' A', attr_Split.l0 (k + 5) kk out l false = some (.inr (ms, l', b')) ∧ vineryref09_Split.l0 (k + 5) kk out B A false = some (.inr (ms, B, A', false)) ∧ ms.length ≤ 64
  | 0, _, _, _, _, hk, _ => absurd hk (Nat.not_lt_zero _)
  | kk + 1, out, l, A, h, hk, ho => by
    by_cases h0 : l = []
    · subst h0
      right
      refine ⟨out, [], false, A, split_end _ _ _, ?_, ho⟩
      rw [vineryref09_Split.l0, rleft h]
      rfl
    · by_cases h64 : out.length = 64
      · left
        have hlen : 0 < l.length := List.length_pos_iff.2 h0
        refine ⟨([], 2), ?_, ?_, rfl⟩
        · rw [attr_Split.l0]
          unfold cursor_rest_Left.f
          simp only [Bool.false_eq_true, if_false, Option.bind_some]
          rw [if_pos (by simp; omega), if_pos (by simp; omega)]
        · rw [vineryref09_Split.l0, rleft h]
          simp only [Option.bind_some]
          rw [if_pos (by simp; omega), if_pos (by simp; omega)]
      · have hll : l.length ≤ 1000000 := by have := h.len; have := h.n; have := h.h0; omega
        rw [split_step k kk out l h0 h.b hll (by omega)]
        rcases rsplit_step k kk out h h0 (by omega) with ⟨e, e2⟩ | ⟨x, r, A', e, g, e2⟩
        · left
          rw [e, e2]
          exact ⟨([], 3), rfl, rfl, rfl⟩
        · rw [e, e2]
          have hr := (step_some h.b e).2.2.2.2
          exact split_both k B kk (out ++ [x]) r A' g (by omega) (by simp; omega)
theorem splitf_both (k : Nat) (b : List Int) (hB : isB b) (hl : b.length ≤ 1000000) (hk : b.length < k) :
    ∃ r, attr_Split.f (k + 105) b = some r ∧ vineryref09_Split.f (k + 105) b = some r ∧ r.1.length ≤ 64 := by
  unfold attr_Split.f cursor_Open.f vineryref09_Split.f vineryref01_Open.f
  rw [clone_ok _ (by omega), if_pos (by simp; omega)]
  simp only [Option.bind_some, List.nil_append]
  rcases split_both (k + 100) b (k + 105) [] b 0 ⟨by omega, by omega, rfl, hl, hB⟩ (by omega) (by simp) with ⟨r, h1, h2, h3⟩ | ⟨ms, l', b', A', h1, h2, h3⟩
  · exact ⟨r, by rw [show attr_Split.l0 (k + 105) (k + 105) [] b false = _ from h1, Option.bind_some], by rw [show vineryref09_Split.l0 (k + 105) (k + 105) [] b 0 false = _ from h2, Option.bind_some], by rw [h3]; simp⟩
  · exact ⟨(ms, 0), by rw [show attr_Split.l0 (k + 105) (k + 105) [] b false = _ from h1, Option.bind_some], by rw [show vineryref09_Split.l0 (k + 105) (k + 105) [] b 0 false = _ from h2, Option.bind_some], h3⟩
/-! the document's Join: the same bytes -/
theorem rchk (F K : Int) : ∃ b, (if (decide (F < (0 : Int))) = true then some (true : Bool) else (if (decide (F > (255 : Int))) = true then some (true : Bool) else (if ((IntKind.i64.wrap (BitVec.ofInt IntKind.i64.bits F &&& BitVec.ofInt IntKind.i64.bits (16 : Int)).toNat) != (0 : Int)) = true then some (true : Bool) else (if (decide (K < (0 : Int))) = true then some (true : Bool) else some (decide (K > (255 : Int)) : Bool))))) = some b ∧ (b = false ↔ (0 ≤ F ∧ F ≤ 255 ∧ lg F = 0 ∧ 0 ≤ K ∧ K ≤ 255)) := by
  show ∃ b, (if (decide (F < (0 : Int))) = true then some (true : Bool) else (if (decide (F > (255 : Int))) = true then some (true : Bool) else (if (lg F != (0 : Int)) = true then some (true : Bool) else (if (decide (K < (0 : Int))) = true then some (true : Bool) else some (decide (K > (255 : Int)) : Bool))))) = some b ∧ _
  by_cases h1 : F < 0
  · exact ⟨true, by simp [h1], by simp; omega⟩
  · by_cases h2 : F > 255
    · exact ⟨true, by simp [h1, h2], by simp; omega⟩
    · by_cases h3 : lg F = 0
      · by_cases h4 : K < 0
        · exact ⟨true, by simp [h1, h2, h3, h4], by simp; omega⟩
        · by_cases h5 : K > 255
          · exact ⟨true, by simp [h1, h2, h3, h4, h5], by simp; omega⟩
          · exact ⟨false, by simp [h1, h2, h3, h4, h5], by simp; omega⟩
      · exact ⟨true, by simp [h1, h2, h3], by simp [h3]⟩
def flag2B (n : Nat) : Bool := decide (lg n ≠ 0) || decide (IntKind.u8.wrap (IntKind.i64.wrap ((n : Int) + 16)) = fo n)
theorem flag2_all : (List.range 256).all flag2B = true := by kernel_rfl
theorem flag2_ok (f : Int) (h0 : 0 ≤ f) (h1 : f ≤ 255) (hl : lg f = 0) : IntKind.u8.wrap (IntKind.i64.wrap (f + 16)) = fo f := by
  obtain ⟨n, rfl⟩ := Int.eq_ofNat_of_zero_le h0
  have h := List.all_eq_true.1 flag2_all n (List.mem_range.2 (by omega))
  unfold flag2B at h
  simp only [Bool.or_eq_true, decide_eq_true_eq] at h
  exact h.resolve_left (fun q => q hl)
theorem join_both (k : Nat) (l : List S_api_Raw) (h64 : l.length ≤ 64) : ∀ (m kk i : Nat) (out : List Int), i + m = l.length → m < kk → out.length ≤ 4100 * i →
    ∃ r, attr_Join.l0 (k + 5) l kk out (i : Int) = some r ∧ vineryref09_Join.l0 l kk out (i : Int) = some r
  | 0, kk + 1, i, out, h, _, _ => by
    refine ⟨.inr out, ?_, ?_⟩
    · rw [attr_Join.l0, if_neg (by simp; omega)]
    · rw [vineryref09_Join.l0, if_neg (by simp; omega)]
  | m + 1, kk + 1, i, out, h, hk, ho => by
    have hi : i < l.length := by omega
    have e : IntKind.i64.wrap ((i : Int) + 1) = ((i + 1 : Nat) : Int) := by rw [w64 _ (by omega)]; omega
    generalize hx : l[i] = x
    obtain ⟨b, hb, hb2⟩ := chk x.Flags x.Kind
    obtain ⟨c, hc, hc2⟩ := rchk x.Flags x.Kind
    have hbc : b = c := by
      cases b with
      | false => exact (hc2.2 (hb2.1 rfl)).symm
      | true =>
        cases c with
        | true => rfl
        | false => exact absurd (hb2.2 (hc2.1 rfl)) (by simp)
    subst hbc
    cases b with
    | true =>
      refine ⟨.inl ([], 1), ?_, ?_⟩
      · rw [attr_Join.l0, if_pos (by simp; omega), if_pos ⟨by omega, by omega⟩, rdR l i hi, hx, hb]; rfl
      · rw [vineryref09_Join.l0, if_pos (by simp; omega), if_pos ⟨by omega, by omega⟩, rdR l i hi, hx, hc]; rfl
    | false =>
      have q := hb2.1 rfl
      have ok : OkF x := ⟨q.1, q.2.1, q.2.2.1, q.2.2.2.1, q.2.2.2.2⟩
      have hf := (flag_ok x.Flags q.1 q.2.1).2 q.2.2.1
      by_cases hv : (x.Value.length : Int) > 4096
      · exact ⟨.inl ([], 2), by rw [attr_Join.l0, if_pos (by simp; omega), if_pos ⟨by omega, by omega⟩, rdR l i hi, hx, hb, Option.bind_some, e, if_neg (by simp), if_pos (by simpa using hv)], by rw [vineryref09_Join.l0, if_pos (by simp; omega), if_pos ⟨by omega, by omega⟩, rdR l i hi, hx, hc, Option.bind_some, e, if_neg (by simp), if_pos (by simpa using hv)]⟩
      · have hlen := (enc_len x (by omega)).1
        obtain ⟨r, g1, g2⟩ := join_both k l h64 m kk (i + 1) (out ++ enc x) (by omega) (by omega) (by rw [List.length_append]; omega)
        refine ⟨r, ?_, ?_⟩
        · rw [attr_Join.l0, if_pos (by simp; omega), if_pos ⟨by omega, by omega⟩, rdR l i hi, hx, hb, Option.bind_some, e, if_neg (by simp), if_neg (by simpa using hv)]
          by_cases h255 : (x.Value.length : Int) > 255
          · rw [if_pos (by simpa using h255), if_pos (by simp; omega)]
            have hp := put_ok k (out ++ ([IntKind.u8.wrap (IntKind.i64.wrap (BitVec.ofInt IntKind.i64.bits (x.Flags) ||| BitVec.ofInt IntKind.i64.bits (16 : Int)).toNat), IntKind.u8.wrap (x.Kind)] : List Int)) (x.Value.length : Int) 2 (by simp; omega) (by omega) (by omega) (by omega) (by omega)
            rw [show (2 : Int) = ((2 : Nat) : Int) from rfl, hp, Option.bind_some]
            rw [if_pos (by simp [putL]; omega), ← g1]
            congr 1
            unfold enc
            rw [if_pos h255, u8w x.Kind ⟨q.2.2.2.1, q.2.2.2.2⟩]
            have e1 : (x.Value.length : Int) / 256 % 256 = (x.Value.length : Int) / 256 := by omega
            simp only [putL, e1, fo, List.append_assoc, List.cons_append, List.nil_append]
          · rw [if_neg (by simpa using h255), if_pos (by simp; omega), if_pos (by simp; omega), ← g1]
            congr 1
            unfold enc
            rw [if_neg h255, u8w x.Kind ⟨q.2.2.2.1, q.2.2.2.2⟩, u8w x.Flags ⟨q.1, q.2.1⟩, u8w (x.Value.length : Int) (by omega), List.append_assoc]
        · rw [vineryref09_Join.l0, if_pos (by simp; omega), if_pos ⟨by omega, by omega⟩, rdR l i hi, hx, hc, Option.bind_some, e, if_neg (by simp), if_neg (by simpa using hv)]
          by_cases h255 : (x.Value.length : Int) > 255
          · rw [if_pos (by simpa using h255), if_pos (by simp; omega), Option.bind_some, if_pos (by simp; omega), ← g2]
            congr 1
            unfold enc
            have t1 : Int.tdiv (x.Value.length : Int) 256 = (x.Value.length : Int) / 256 := Int.tdiv_eq_ediv_of_nonneg (by omega)
            have u1 : IntKind.u8.wrap (x.Value.length : Int) = (x.Value.length : Int) % 256 := IntKind.wrap_u8 _
            rw [if_pos h255, u8w x.Kind ⟨q.2.2.2.1, q.2.2.2.2⟩, flag2_ok x.Flags q.1 q.2.1 q.2.2.1, t1, w64 _ (by omega), u8w ((x.Value.length : Int) / 256) (by omega), u1]
            simp only [List.append_assoc, List.cons_append, List.nil_append]
          · rw [if_neg (by simpa using h255), if_pos (by simp; omega), Option.bind_some, if_pos (by simp; omega), ← g2]
            congr 1
            unfold enc
            rw [if_neg h255, u8w x.Kind ⟨q.2.2.2.1, q.2.2.2.2⟩, u8w x.Flags ⟨q.1, q.2.1⟩, u8w (x.Value.length : Int) (by omega), List.append_assoc]
theorem joinf_both (k : Nat) (l : List S_api_Raw) : ∃ r, attr_Join.f (k + 105) l = some r ∧ vineryref09_Join.f (k + 105) l = some r := by
  unfold attr_Join.f vineryref09_Join.f
  by_cases h : (l.length : Int) > 64
  · exact ⟨([], 2), by rw [if_pos (by simpa using h)], by rw [if_pos (by simpa using h)]⟩
  · rw [if_neg (by simpa using h), if_neg (by simpa using h)]
    obtain ⟨r, h1, h2⟩ := join_both (k + 100) l (by omega) l.length (k + 105) 0 [] (by omega) (by omega) (by simp)
    rw [show attr_Join.l0 (k + 105) l (k + 105) [] 0 = _ from h1, show vineryref09_Join.l0 l (k + 105) [] 0 = _ from h2]
    simp only [Option.bind_some]
    cases r with
    | inl r => exact ⟨r, rfl, rfl⟩
    | inr r => exact ⟨_, rfl, rfl⟩
theorem few_true_l0 (l : List S_api_Raw) (hl : l.length ≤ 140737488351232) : ∀ (m kk i : Nat), i + m = l.length → vinerylaw09_fewRaws.l0 l kk (i : Int) = some (.inr ()) → ∀ x ∈ l.drop i, x.Value.length ≤ 8192
  | 0, _, i, h, _ => by
    rw [List.drop_of_length_le (by omega)]
    exact fun _ h => nomatch h
  | m + 1, 0, i, h, hf => by cases hf
  | m + 1, kk + 1, i, h, hf => by
    have hi : i < l.length := by omega
    have e : IntKind.i64.wrap ((i : Int) + 1) = ((i + 1 : Nat) : Int) := by rw [w64 _ (by omega)]; omega
    rw [vinerylaw09_fewRaws.l0, if_pos (by simp; omega), if_pos ⟨by omega, by omega⟩, e, rdR l i hi] at hf
    by_cases hv : (l[i].Value.length : Int) > 8192
    · rw [if_pos (by simpa using hv)] at hf; cases hf
    · rw [if_neg (by simpa using hv)] at hf
      rw [List.drop_eq_getElem_cons hi]
      intro x hx
      rcases List.mem_cons.1 hx with rfl | hx
      · omega
      · exact few_true_l0 l hl m kk (i + 1) (by omega) hf x hx
theorem few_true (k : Nat) (l : List S_api_Raw) (hl : l.length ≤ 140737488351232) (h : vinerylaw09_fewRaws.f k l = some true) : l.length < 100 ∧ ∀ x ∈ l, x.Value.length ≤ 8192 := by
  unfold vinerylaw09_fewRaws.f at h
  cases hr : vinerylaw09_fewRaws.l0 l k (0 : Int) with
  | none => rw [hr] at h; cases h
  | some r =>
    rw [hr, Option.bind_some] at h
    cases r with
    | inl b =>
      exfalso
      have : ∀ (m kk i : Nat) (b : Bool), i + m = l.length → vinerylaw09_fewRaws.l0 l kk (i : Int) = some (.inl b) → b = false := by
        intro m
        induction m with
        | zero =>
          intro kk i b hi hb
          cases kk with
          | zero => cases hb
          | succ kk => rw [vinerylaw09_fewRaws.l0, if_neg (by simp; omega)] at hb; cases hb
        | succ m ih =>
          intro kk i b hi hb
          cases kk with
          | zero => cases hb
          | succ kk =>
            have e : IntKind.i64.wrap ((i : Int) + 1) = ((i + 1 : Nat) : Int) := by rw [w64 _ (by omega)]; omega
            rw [vinerylaw09_fewRaws.l0, if_pos (by simp; omega), if_pos ⟨by omega, by omega⟩, e] at hb
            by_cases hv : decide (((rd l (i : Int)).Value.length : Int) > 8192) = true
            · rw [if_pos hv] at hb; exact (Sum.inl.inj (Option.some.inj hb)).symm
            · rw [if_neg hv] at hb; exact ih kk (i + 1) b (by omega) hb
      have hb := this l.length k 0 b (by omega) hr
      subst hb
      cases h
    | inr u =>
      refine ⟨?_, ?_⟩
      · simp at h; omega
      · exact few_true_l0 l hl l.length k 0 (by omega) hr
theorem kept_refl (l : List Int) : Kept.f l l = some true := by
  unfold Kept.f
  rw [BEq.rfl]
theorem AttrSplits.law (b : List Int) (hb : okL 1 (okI .u8) b) (l : List S_api_Raw) (hl : okL 40 okS_api_Raw l) : ∃ k, vinerylaw09_AttrSplits.f k b l = some true := by
  have hB := okL_isB hb
  have hll : l.length ≤ 140737488351232 := by rcases okL_len hl with h | h <;> omega
  refine ⟨(l.length + 20000) + 105, ?_⟩
  unfold vinerylaw09_AttrSplits.f
  obtain ⟨fw, hfw⟩ := few_f ((l.length + 20000) + 105) l hll (by omega)
  rw [small09 (l.length + 20085), Option.bind_some, hfw, Option.bind_some]
  by_cases hc : (if (!fw) = true then true else decide ((b.length : Int) > 16384)) = true
  · rw [if_pos hc]
  rw [if_neg hc]
  have hft : fw = true := by
    cases fw
    · simp at hc
    · rfl
  subst hft
  have hbl : b.length ≤ 16384 := by simp at hc; omega
  obtain ⟨hl100, hlv⟩ := few_true _ l hll hfw
  have q1 : Lent.f b = some b := by unfold Lent.f; rw [if_pos (by omega)]
  have q2 : vinerylaw09_lent.f l = some l := by
    unfold vinerylaw09_lent.f
    rw [if_pos ⟨by omega, List.all_eq_true.2 fun x hx => by have := hlv x hx; simp; omega⟩]
  have q3 : vinerylaw09_spoil.f l = some () := by unfold vinerylaw09_spoil.f; rw [if_pos (by omega)]
  obtain ⟨s, s1, s2, s3⟩ := splitf_both (l.length + 20000) b hB (by omega) (by omega)
  obtain ⟨j, j1, j2⟩ := joinf_both (l.length + 20000) l
  rw [q1, q2]
  simp only [Option.bind_some]
  rw [s1, j1, s2, j2, q3, kept_refl, same_f _ l (by omega) (by omega)]
  simp only [Option.bind_some, if_true]
  rw [same_f _ s.1 (by omega) (by omega)]
  simp only [Option.bind_some, if_true, BEq.rfl]
end Go.E
