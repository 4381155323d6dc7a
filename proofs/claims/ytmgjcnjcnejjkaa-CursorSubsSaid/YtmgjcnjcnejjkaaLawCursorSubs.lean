/- The plain law: what the walk computes is true, whatever the input. -/
import Derived.Test.YtmgjcnjcnejjkaaGenCursorSubs
import Derived.Test.YtmgjcnjcnejjkaaEngR
set_option linter.unusedVariables false
set_option linter.unusedSimpArgs false
namespace Go.E
theorem bstr_toList (l : List UInt8) : (bstr l).toList = l := by rw [ByteArray.toList_eq]; simp [bstr]
theorem small_true : ∀ k, vinerylaw01_small.f (k + 8) = some true := fun k => by
  unfold vinerylaw01_small.f
  simp only [bstr_toList]
  rfl
theorem clone_ok (l : List Int) (h : l.length ≤ 140737488355328) : bytes_Clone.f l = some l := if_pos h
theorem next_bad (r : S_cursor_rest) (n : Int) (h : r.bad = true ∨ n < 0 ∨ n > r.left.length) : cursor_rest_next.f r n = some ([], ⟨r.left, true⟩) := by
  unfold cursor_rest_next.f
  by_cases hb : r.bad = true
  · simp [hb]
  · by_cases h1 : n < 0
    · simp [hb, h1]
    · have h2 : (r.left.length : Int) < n := by rcases h with h | h | h <;> first | exact absurd h hb | exact absurd h h1 | exact h
      simp [hb, h1, h2]
theorem next_ok (r : S_cursor_rest) (n : Int) (hb : r.bad = false) (h0 : 0 ≤ n) (h1 : n ≤ r.left.length) : cursor_rest_next.f r n = some (r.left.take n.toNat, ⟨r.left.drop n.toNat, false⟩) := by
  unfold cursor_rest_next.f
  have e0 : ¬ n < 0 := by omega
  have e1 : ¬ (r.left.length : Int) < n := by omega
  simp [hb, e0, e1, h0, h1]
theorem take_bad (r : S_cursor_Reader) (n : Int) (h : r.rest.bad = true ∨ n < 0 ∨ n > r.rest.left.length) : cursor_Reader_Take.f r n = some ([], ⟨⟨r.rest.left, true⟩⟩) := by
  unfold cursor_Reader_Take.f
  rw [next_bad _ _ h, Option.bind_some, clone_ok _ (by simp)]
  rfl
theorem take_ok (r : S_cursor_Reader) (n : Int) (hl : r.rest.left.length ≤ 140737488355328) (hb : r.rest.bad = false) (h0 : 0 ≤ n) (h1 : n ≤ r.rest.left.length) :
    cursor_Reader_Take.f r n = some (r.rest.left.take n.toNat, ⟨⟨r.rest.left.drop n.toNat, false⟩⟩) := by
  unfold cursor_Reader_Take.f
  rw [next_ok _ _ hb h0 h1, Option.bind_some, clone_ok _ (by simp; omega)]
  rfl
/-- what a number's bytes come to -/
def numL : List Int → Int → Int
  | [], x => x
  | c :: l, x => numL l (IntKind.i64.wrap (BitVec.ofInt IntKind.i64.bits (IntKind.i64.wrap (x * 2 ^ (min (8 : Int).toNat IntKind.i64.bits))) ||| BitVec.ofInt IntKind.i64.bits (IntKind.i64.wrap c)).toNat)
theorem num_l0 (t : List Int × S_cursor_rest) (hl : t.1.length ≤ 140737488355328) : ∀ (m k i : Nat) (x : Int), m + i = t.1.length → m < k → cursor_Reader_Num.l0 t k x (i : Int) = some (numL (t.1.drop i) x)
  | 0, k + 1, i, x, h, _ => by
    unfold cursor_Reader_Num.l0
    rw [if_neg (by simp; omega), List.drop_of_length_le (by omega)]
    rfl
  | m + 1, k + 1, i, x, h, hk => by
    unfold cursor_Reader_Num.l0
    have hi : i < t.1.length := by omega
    have e : IntKind.i64.wrap ((i : Int) + 1) = ((i + 1 : Nat) : Int) := by rw [IntKind.wrap_i64]; omega
    rw [if_pos (by simpa using hi), if_pos (by omega), e, num_l0 t hl m k (i + 1) _ (by omega) (by omega), List.drop_eq_getElem_cons hi]
    have er : rd t.1 (i : Int) = t.1[i] := by simp [rd, List.getD, hi]
    rw [er]
    rfl
theorem num_bad (k : Nat) (r : S_cursor_Reader) (n : Int) (h : r.rest.bad = true ∨ n < 1 ∨ n > 4 ∨ n > r.rest.left.length) : cursor_Reader_Num.f (k + 1) r n = some (0, ⟨⟨r.rest.left, true⟩⟩) := by
  unfold cursor_Reader_Num.f
  have hl : cursor_Reader_Num.l0 ([], ⟨r.rest.left, true⟩) (k + 1) 0 0 = some 0 := by unfold cursor_Reader_Num.l0; simp
  by_cases hs : n < 1 ∨ n > 4
  · have : (if decide (n < 1) = true then true else decide (n > 4)) = true := by rcases hs with h | h <;> simp [h]
    rw [if_pos this, Option.bind_some, next_bad _ _ (by omega), Option.bind_some, hl]
    rfl
  · have h1 : ¬ n < 1 := fun e => hs (.inl e)
    have h2 : ¬ 4 < n := fun e => hs (.inr e)
    have : ¬ (if decide (n < 1) = true then true else decide (n > 4)) = true := by simp [h1, h2]
    rw [if_neg this, Option.bind_some, next_bad _ _ (by rcases h with h | h | h | h <;> first | exact .inl h | exact absurd h h1 | exact absurd h h2 | exact .inr (.inr h)), Option.bind_some, hl]
    rfl
theorem num_ok (k : Nat) (r : S_cursor_Reader) (n : Int) (hb : r.rest.bad = false) (h1 : 1 ≤ n) (h4 : n ≤ 4) (hn : n ≤ r.rest.left.length) :
    cursor_Reader_Num.f (k + 5) r n = some (numL (r.rest.left.take n.toNat) 0, ⟨⟨r.rest.left.drop n.toNat, false⟩⟩) := by
  unfold cursor_Reader_Num.f
  have e1 : ¬ n < 1 := by omega
  have e4 : ¬ 4 < n := by omega
  rw [if_neg (by simp [e1, e4]), Option.bind_some, next_ok _ _ hb (by omega) hn, Option.bind_some]
  have hl : (r.rest.left.take n.toNat).length ≤ 4 := by simp; omega
  have := num_l0 (r.rest.left.take n.toNat, ⟨r.rest.left.drop n.toNat, false⟩) (by show (r.rest.left.take n.toNat).length ≤ _; omega) (r.rest.left.take n.toNat).length (k + 5) 0 0 rfl (by omega)
  simp only [Int.ofNat_zero, Int.natCast_zero, List.drop_zero] at this
  rw [this]
  rfl
theorem left_f (r : S_cursor_rest) : cursor_rest_Left.f r = some (if r.bad = true then 0 else (r.left.length : Int)) := by
  unfold cursor_rest_Left.f
  split <;> rfl
theorem CursorSubs.law (b : List Int) (hb : okL 1 (okI .u8) b) (n : Int) (hn : okI .i64 n) (m : Int) (hm : okI .i64 m) : ∃ k, vinerylaw01_CursorSubs.f k b n m = some true := by
  refine ⟨0 + 8, ?_⟩
  have hbl : b.length ≤ 140737488351232 := by have := hb.1; unfold reachBytes at this; omega
  unfold vinerylaw01_CursorSubs.f
  rw [small_true, Option.bind_some]
  unfold cursor_Open.f
  rw [clone_ok _ (by omega)]
  simp only [Option.bind_some, Bool.not_true, Bool.false_eq_true, if_false]
  unfold cursor_Reader_Sub.f cursor_rest_Bad.f
  by_cases h : n < 0 ∨ n > b.length
  · have e : (if decide (n < 0) = true then true else decide (n > (b.length : Int))) = true := by simp; omega
    rw [take_bad _ _ (.inr h), e]
    simp [left_f]
  · have h0 : ¬ n < 0 := fun e => h (.inl e)
    have h1 : ¬ (b.length : Int) < n := fun e => h (.inr e)
    have hnn : ((n.toNat : Nat) : Int) = n := by omega
    have hmin : min n.toNat b.length = n.toNat := by omega
    rw [take_ok _ _ (by show b.length ≤ _; omega) rfl (by omega) (by show n ≤ (b.length : Int); omega)]
    have e : (if decide (n < 0) = true then true else decide (n > (b.length : Int))) = false := by simp [h0, h1]
    rw [e]
    simp only [Option.bind_some, left_f, Bool.false_eq_true, if_false]
    rw [take_ok _ _ (by simp; omega) rfl (by omega) (by simp), take_ok _ _ (by simp; omega) rfl (by omega) (by simp)]
    simp only [Option.bind_some, List.length_take, List.length_drop, Int.toNat_natCast, bstr_toList, List.drop_take_self]
    have hlen : (List.take (min n.toNat b.length) (List.take n.toNat b)) = List.take n.toNat b := by rw [hmin, List.take_take, Nat.min_self]
    have hdr : List.take (b.length - n.toNat) (List.drop n.toNat b) = List.drop n.toNat b := List.take_of_length_le (by simp)
    rw [hlen, hdr]
    have hcat : b2s (List.take n.toNat b) ++ b2s (List.drop n.toNat b) = b2s b := by unfold b2s; rw [← List.map_append, List.take_append_drop]
    rw [hcat]
    have hbs : (b2s b).length = b.length := by unfold b2s; simp
    have e1 : (((min n.toNat b.length : Nat) : Int) == n) = true := by rw [hmin, hnn]; simp
    have e2 : (b2s b).length ≤ 9223372036854775807 := by omega
    by_cases hm0 : m = 0
    · subst hm0
      rw [take_ok _ _ (by simp) rfl (by omega) (by simp)]
      simp only [Option.bind_some]
      rw [if_pos e1, if_pos e2]
      simp
    · rw [take_bad _ _ (by
        by_cases hmm : m < 0
        · exact .inr (.inl hmm)
        · refine .inr (.inr ?_); simp [List.length_drop]; omega)]
      simp only [Option.bind_some]
      rw [if_pos e1, if_pos e2]
      simp [hm0]
end Go.E
