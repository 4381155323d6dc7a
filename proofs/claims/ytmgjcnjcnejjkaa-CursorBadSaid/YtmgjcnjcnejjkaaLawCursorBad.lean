/- The plain law: what the walk computes is true, whatever the input. -/
import Derived.Test.YtmgjcnjcnejjkaaGenCursorBad
import Derived.Test.YtmgjcnjcnejjkaaEngR
set_option linter.unusedVariables false
set_option linter.unusedSimpArgs false
namespace Go.E
theorem bstr_toList (l : List UInt8) : (bstr l).toList = l := by rw [ByteArray.toList_eq]; simp [bstr]
theorem small_true : ∀ k, vinerylaw01_small.f (k + 8) = some true := fun k => by
  unfold vinerylaw01_small.f
  simp only [bstr_toList]
  rfl
theorem clone_ok (l : List Int) (h : l.length ≤ 140737488355328) : bytes_Clone.f l = some l := if_pos h
theorem next_bad (r : S_cursor_rest) (n : Int) (h : r.bad = true ∨ n < 0 ∨ n > r.left.length) : cursor_rest_next.f r n = some ([], ⟨r.left, true⟩) := by
  unfold cursor_rest_next.f
  by_cases hb : r.bad = true
  · simp [hb]
  · by_cases h1 : n < 0
    · simp [hb, h1]
    · have h2 : (r.left.length : Int) < n := by rcases h with h | h | h <;> first | exact absurd h hb | exact absurd h h1 | exact h
      simp [hb, h1, h2]
theorem next_ok (r : S_cursor_rest) (n : Int) (hb : r.bad = false) (h0 : 0 ≤ n) (h1 : n ≤ r.left.length) : cursor_rest_next.f r n = some (r.left.take n.toNat, ⟨r.left.drop n.toNat, false⟩) := by
  unfold cursor_rest_next.f
  have e0 : ¬ n < 0 := by omega
  have e1 : ¬ (r.left.length : Int) < n := by omega
  simp [hb, e0, e1, h0, h1]
theorem take_bad (r : S_cursor_Reader) (n : Int) (h : r.rest.bad = true ∨ n < 0 ∨ n > r.rest.left.length) : cursor_Reader_Take.f r n = some ([], ⟨⟨r.rest.left, true⟩⟩) := by
  unfold cursor_Reader_Take.f
  rw [next_bad _ _ h, Option.bind_some, clone_ok _ (by simp)]
  rfl
theorem take_ok (r : S_cursor_Reader) (n : Int) (hl : r.rest.left.length ≤ 140737488355328) (hb : r.rest.bad = false) (h0 : 0 ≤ n) (h1 : n ≤ r.rest.left.length) :
    cursor_Reader_Take.f r n = some (r.rest.left.take n.toNat, ⟨⟨r.rest.left.drop n.toNat, false⟩⟩) := by
  unfold cursor_Reader_Take.f
  rw [next_ok _ _ hb h0 h1, Option.bind_some, clone_ok _ (by simp; omega)]
  rfl
/-- what a number's bytes come to -/
def numL : List Int → Int → Int
  | [], x => x
  | c :: l, x => numL l (IntKind.i64.wrap (BitVec.ofInt IntKind.i64.bits (IntKind.i64.wrap (x * 2 ^ (min (8 : Int).toNat IntKind.i64.bits))) ||| BitVec.ofInt IntKind.i64.bits (IntKind.i64.wrap c)).toNat)
theorem num_l0 (t : List Int × S_cursor_rest) (hl : t.1.length ≤ 140737488355328) : ∀ (m k i : Nat) (x : Int), m + i = t.1.length → m < k → cursor_Reader_Num.l0 t k x (i : Int) = some (numL (t.1.drop i) x)
  | 0, k + 1, i, x, h, _ => by
    unfold cursor_Reader_Num.l0
    rw [if_neg (by simp; omega), List.drop_of_length_le (by omega)]
    rfl
  | m + 1, k + 1, i, x, h, hk => by
    unfold cursor_Reader_Num.l0
    have hi : i < t.1.length := by omega
    have e : IntKind.i64.wrap ((i : Int) + 1) = ((i + 1 : Nat) : Int) := by rw [IntKind.wrap_i64]; omega
    rw [if_pos (by simpa using hi), if_pos (by omega), e, num_l0 t hl m k (i + 1) _ (by omega) (by omega), List.drop_eq_getElem_cons hi]
    have er : rd t.1 (i : Int) = t.1[i] := by simp [rd, List.getD, hi]
    rw [er]
    rfl
theorem num_bad (k : Nat) (r : S_cursor_Reader) (n : Int) (h : r.rest.bad = true ∨ n < 1 ∨ n > 4 ∨ n > r.rest.left.length) : cursor_Reader_Num.f (k + 1) r n = some (0, ⟨⟨r.rest.left, true⟩⟩) := by
  unfold cursor_Reader_Num.f
  have hl : cursor_Reader_Num.l0 ([], ⟨r.rest.left, true⟩) (k + 1) 0 0 = some 0 := by unfold cursor_Reader_Num.l0; simp
  by_cases hs : n < 1 ∨ n > 4
  · have : (if decide (n < 1) = true then true else decide (n > 4)) = true := by rcases hs with h | h <;> simp [h]
    rw [if_pos this, Option.bind_some, next_bad _ _ (by omega), Option.bind_some, hl]
    rfl
  · have h1 : ¬ n < 1 := fun e => hs (.inl e)
    have h2 : ¬ 4 < n := fun e => hs (.inr e)
    have : ¬ (if decide (n < 1) = true then true else decide (n > 4)) = true := by simp [h1, h2]
    rw [if_neg this, Option.bind_some, next_bad _ _ (by rcases h with h | h | h | h <;> first | exact .inl h | exact absurd h h1 | exact absurd h h2 | exact .inr (.inr h)), Option.bind_some, hl]
    rfl
theorem num_ok (k : Nat) (r : S_cursor_Reader) (n : Int) (hb : r.rest.bad = false) (h1 : 1 ≤ n) (h4 : n ≤ 4) (hn : n ≤ r.rest.left.length) :
    cursor_Reader_Num.f (k + 5) r n = some (numL (r.rest.left.take n.toNat) 0, ⟨⟨r.rest.left.drop n.toNat, false⟩⟩) := by
  unfold cursor_Reader_Num.f
  have e1 : ¬ n < 1 := by omega
  have e4 : ¬ 4 < n := by omega
  rw [if_neg (by simp [e1, e4]), Option.bind_some, next_ok _ _ hb (by omega) hn, Option.bind_some]
  have hl : (r.rest.left.take n.toNat).length ≤ 4 := by simp; omega
  have := num_l0 (r.rest.left.take n.toNat, ⟨r.rest.left.drop n.toNat, false⟩) (by show (r.rest.left.take n.toNat).length ≤ _; omega) (r.rest.left.take n.toNat).length (k + 5) 0 0 rfl (by omega)
  simp only [Int.ofNat_zero, Int.natCast_zero, List.drop_zero] at this
  rw [this]
  rfl
theorem left_f (r : S_cursor_rest) : cursor_rest_Left.f r = some (if r.bad = true then 0 else (r.left.length : Int)) := by
  unfold cursor_rest_Left.f
  split <;> rfl
/-- it goes on to its end -/
def Goes {S : Type} (o : Option (Bool ⊕ S)) : Prop := ∃ x, o = some (.inr x)
/-- what an act does to a reader -/
theorem bad_step (k : Nat) (acts : List S_vinerylaw01_Act) (hl : acts.length ≤ 140737488351232) : ∀ (m kk i : Nat) (l : List Int) (b : Bool), m + i = acts.length → m < kk → l.length ≤ 140737488351232 →
    Goes (vinerylaw01_CursorBad.l0 (k + 5) acts kk (i : Int) l b)
  | 0, kk + 1, i, l, b, h, _, _ => by
    unfold vinerylaw01_CursorBad.l0
    have : ¬ (i : Int) < acts.length := by omega
    simp [this, Goes]
  | m + 1, kk + 1, i, l, b, h, hk, hb => by
    unfold vinerylaw01_CursorBad.l0
    have e : IntKind.i64.wrap ((i : Int) + 1) = ((i + 1 : Nat) : Int) := by rw [IntKind.wrap_i64]; omega
    have hi : (i : Int) < acts.length := by omega
    by_cases h60 : (i : Int) < 60
    · have ih := fun l b hb => bad_step k acts hl m kk (i + 1) l b (by omega) (by omega) hb
      generalize ((i + 1 : Nat) : Int) = j at e ih
      have c : (if decide ((i : Int) < acts.length) = true then decide ((i : Int) < 60) else false) = true := by simp [hi, h60]
      have c2 : (0 : Int) ≤ i ∧ (i : Int) < acts.length := ⟨by omega, hi⟩
      rw [if_pos c, e]
      generalize (rd acts (i : Int)) = act
      obtain ⟨dO, n⟩ := act
      unfold cursor_rest_Bad.f
      simp only [Option.bind_some, left_f, if_pos c2]
      unfold lv
      by_cases hd : dO = 0
      · subst hd
        by_cases hx : b = true ∨ n < 1 ∨ n > 4 ∨ n > l.length
        · rw [num_bad _ _ _ hx]
          simp only [BEq.rfl, if_true, Option.bind_some]
          cases b <;> simp <;> exact ih l true hb
        · have hbf : b = false := by cases b <;> simp_all
          subst hbf
          have h1 : 1 ≤ n ∧ n ≤ 4 ∧ n ≤ l.length := by simp at hx; omega
          rw [num_ok _ _ _ rfl h1.1 h1.2.1 h1.2.2]
          have en : ((l.length - n.toNat : Nat) : Int) = IntKind.i64.wrap ((l.length : Int) - n) := by rw [IntKind.wrap_i64]; omega
          simp [en]
          exact ih (l.drop n.toNat) false (by simp; omega)
      · have hdb : (dO == 0) = false := by simpa using hd
        by_cases hx : b = true ∨ n < 0 ∨ n > l.length
        · rw [take_bad _ _ hx]
          simp only [hdb, Bool.false_eq_true, if_false, Option.bind_some]
          cases b <;> simp <;> exact ih l true hb
        · have hbf : b = false := by cases b <;> simp_all
          subst hbf
          have h1 : 0 ≤ n ∧ n ≤ l.length := by simp at hx; omega
          rw [take_ok _ _ (by show l.length ≤ _; omega) rfl h1.1 h1.2]
          have en : ((l.length - n.toNat : Nat) : Int) = IntKind.i64.wrap ((l.length : Int) - n) := by rw [IntKind.wrap_i64]; omega
          have em : ((min n.toNat l.length : Nat) : Int) = n := by omega
          simp [hdb, en, em]
          exact ih (l.drop n.toNat) false (by simp; omega)
    · have c : ¬ (if decide ((i : Int) < acts.length) = true then decide ((i : Int) < 60) else false) = true := by simp [h60]
      rw [if_neg c]
      exact ⟨_, rfl⟩
theorem CursorBad.law (b : List Int) (hb : okL 1 (okI .u8) b) (acts : List S_vinerylaw01_Act) (ha : okL 16 okS_vinerylaw01_Act acts) : ∃ k, vinerylaw01_CursorBad.f k b acts = some true := by
  have hbl : b.length ≤ 140737488351232 := by have := hb.1; unfold reachBytes at this; omega
  have hal : acts.length ≤ 140737488351232 := by have := ha.1; unfold reachBytes at this; omega
  refine ⟨acts.length + 8, ?_⟩
  unfold vinerylaw01_CursorBad.f
  rw [small_true, Option.bind_some]
  unfold cursor_Open.f
  rw [clone_ok _ (by omega)]
  simp only [Option.bind_some, Bool.not_true, Bool.false_eq_true, if_false]
  obtain ⟨x, hx⟩ := bad_step (acts.length + 3) acts hal acts.length (acts.length + 8) 0 b false (by omega) (by omega) hbl
  rw [show ((0 : Nat) : Int) = (0 : Int) from rfl] at hx
  rw [show acts.length + 8 = acts.length + 3 + 5 from rfl] at hx ⊢
  rw [hx]
  rfl
end Go.E
