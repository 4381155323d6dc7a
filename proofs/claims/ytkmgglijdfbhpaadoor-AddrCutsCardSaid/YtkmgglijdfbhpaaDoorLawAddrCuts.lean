/- The plain law: what the walk computes is true, whatever the input. -/
import Derived.Test.YtkmgglijdfbhpaaDoorGenAddrCuts
import Derived.Test.YtkmgglijdfbhpaaDoorEngR
set_option linter.unusedVariables false
set_option linter.unusedSimpArgs false
namespace Go.E
theorem bstr_toList (l : List UInt8) : (bstr l).toList = l := by rw [ByteArray.toList_eq]; simp [bstr]
theorem w64 (n : Int) (h : -9223372036854775808 ≤ n ∧ n ≤ 9223372036854775807) : IntKind.i64.wrap n = n := by rw [IntKind.wrap_i64]; omega
def isB (l : List Int) : Prop := ∀ y ∈ l, 0 ≤ y ∧ y ≤ 255
theorem okL_isB {l : List Int} (h : okL 1 (okI .u8) l) : isB l := fun y hy => by
  have := h.2 y hy
  have e1 : IntKind.u8.min = 0 := rfl
  have e2 : IntKind.u8.max = 255 := rfl
  unfold okI at this
  omega
theorem okA_isB {l : List Int} {n : Nat} (h : okA .u8 n l) : isB l := fun y hy => by
  have := h.2 y hy
  have e1 : IntKind.u8.min = 0 := rfl
  have e2 : IntKind.u8.max = 255 := rfl
  unfold okI at this
  omega
theorem okL_len {l : List Int} {ok : Int → Prop} (h : okL 1 ok l) : l.length ≤ 140737488351232 := by have := h.1; unfold reachBytes at this; omega
theorem isB.app {a b : List Int} (h : isB a) (h' : isB b) : isB (a ++ b) := fun y hy => (List.mem_append.1 hy).elim (h y) (h' y)
theorem b2s_inj : ∀ {a b : List Int}, isB a → isB b → b2s a = b2s b → a = b
  | [], [], _, _, _ => rfl
  | [], _ :: _, _, _, h => by simp [b2s] at h
  | _ :: _, [], _, _, h => by simp [b2s] at h
  | x :: a, y :: b, ha, hb, h => by
    simp only [b2s, List.map_cons, List.cons.injEq] at h
    have h1 := ha x (by simp); have h2 := hb y (by simp)
    have e := congrArg UInt8.toNat h.1
    rw [UInt8.toNat_ofNat', UInt8.toNat_ofNat'] at e
    rw [b2s_inj (fun z hz => ha z (by simp [hz])) (fun z hz => hb z (by simp [hz])) h.2, show x = y by omega]
theorem b2s_beq {a b : List Int} (ha : isB a) (hb : isB b) : (b2s a == b2s b) = (a == b) := by
  rw [Bool.eq_iff_iff]
  simp only [beq_iff_eq]
  exact ⟨b2s_inj ha hb, fun e => by rw [e]⟩
theorem rd_at (l : List Int) (i : Nat) (hi : i < l.length) : rd l (i : Int) = l[i] := by simp [rd, List.getD, hi]
theorem ar_at (l : List Int) (i : Nat) (hi : i < l.length) : ar l i = l[i] := by simp [ar, List.getD, hi]
theorem arL_self (l : List Int) : arL l.length l = l := by
  apply List.ext_getElem
  · simp [arL]
  · intro i h1 h2
    simp [arL, ar_at l i h2]
/-! trimming zeros -/
theorem tr_nil (k : Nat) : bytes_trimRightByte.l0 0 (k + 1) [] = some [] := by unfold bytes_trimRightByte.l0; simp
theorem tr_snoc (k : Nat) (y : List Int) (c : Int) (h : y.length ≤ 100) : bytes_trimRightByte.l0 0 (k + 1) (y ++ [c]) = if c = 0 then bytes_trimRightByte.l0 0 k y else some (y ++ [c]) := by
  rw [bytes_trimRightByte.l0]
  have hl : (y ++ [c]).length = y.length + 1 := by simp
  have e : IntKind.i64.wrap (((y ++ [c]).length : Int) - 1) = (y.length : Int) := by rw [hl, IntKind.wrap_i64]; omega
  have er : rd (y ++ [c]) (y.length : Int) = c := by rw [rd_at _ _ (by simp)]; simp
  rw [e, er, if_pos (by simp <;> omega), if_pos (by rw [hl]; omega), Option.bind_some]
  by_cases hc : c = 0
  · rw [if_pos (by simpa using hc), if_pos (by rw [hl]; simp <;> omega), if_pos hc]
    simp
  · rw [if_neg (by simpa using hc), if_neg hc]
theorem tr_ok : ∀ (n k : Nat) (x : List Int), x.length = n → n < k → n ≤ 100 → ∃ r, bytes_trimRightByte.l0 0 k x = some r ∧ r.length ≤ x.length ∧ r.all (· == 0) = x.all (· == 0)
  | 0, k, x, h, hk, _ => by
    obtain ⟨k, rfl⟩ : ∃ k', k = k' + 1 := ⟨k - 1, by omega⟩
    obtain rfl := List.eq_nil_of_length_eq_zero h
    exact ⟨[], tr_nil k, Nat.le_refl _, rfl⟩
  | n + 1, k, x, h, hk, hn => by
    obtain ⟨k, rfl⟩ : ∃ k', k = k' + 1 := ⟨k - 1, by omega⟩
    have hne : x ≠ [] := by intro e; subst e; simp at h
    have hx : x = x.dropLast ++ [x.getLast hne] := (List.dropLast_concat_getLast hne).symm
    have hd : x.dropLast.length = n := by simp [h]
    generalize x.dropLast = y at hx hd
    generalize x.getLast hne = c at hx
    subst hx
    rw [tr_snoc k y c (by omega)]
    by_cases hc : c = 0
    · obtain ⟨r, h1, h2, h3⟩ := tr_ok n k y hd (by omega) (by omega)
      exact ⟨r, by rw [if_pos hc]; exact h1, by simp; omega, by rw [h3]; simp [hc]⟩
    · exact ⟨_, if_neg hc, Nat.le_refl _, rfl⟩
theorem tl_nil (k : Nat) : bytes_trimLeftByte.l0 0 (k + 1) [] = some [] := by unfold bytes_trimLeftByte.l0; simp
theorem tl_cons (k : Nat) (y : List Int) (c : Int) : bytes_trimLeftByte.l0 0 (k + 1) (c :: y) = if c = 0 then bytes_trimLeftByte.l0 0 k y else some (c :: y) := by
  rw [bytes_trimLeftByte.l0]
  have er : rd (c :: y) 0 = c := rfl
  rw [er, if_pos (by simp <;> omega), if_pos (by simp <;> omega), Option.bind_some]
  by_cases hc : c = 0
  · rw [if_pos (by simpa using hc), if_pos (by simp <;> omega), if_pos hc]
    simp
  · rw [if_neg (by simpa using hc), if_neg hc]
theorem tl_ok : ∀ (x : List Int) (k : Nat), x.length < k → ∃ r, bytes_trimLeftByte.l0 0 k x = some r ∧ (((r.length : Int) == 0) = x.all (· == 0))
  | [], k, hk => by
    obtain ⟨k, rfl⟩ : ∃ k', k = k' + 1 := ⟨k - 1, by omega⟩
    exact ⟨[], tl_nil k, rfl⟩
  | c :: y, k, hk => by
    obtain ⟨k, rfl⟩ : ∃ k', k = k' + 1 := ⟨k - 1, by omega⟩
    rw [tl_cons]
    by_cases hc : c = 0
    · obtain ⟨r, h1, h2⟩ := tl_ok y k (by simp at hk; omega)
      exact ⟨r, by rw [if_pos hc]; exact h1, by rw [h2]; simp [hc]⟩
    · refine ⟨_, if_neg hc, ?_⟩
      have : (c == 0) = false := by simpa using hc
      simp only [List.all_cons, this, Bool.false_and]
      simp
      omega
theorem trim_ok (k : Nat) (x : List Int) (hx : x.length ≤ 16) : ∃ r, bytes_Trim.f (k + 20) x [0] = some r ∧ (((r.length : Int) == 0) = x.all (· == 0)) := by
  by_cases h0 : x.length = 0
  · obtain rfl := List.eq_nil_of_length_eq_zero h0
    exact ⟨[], rfl, rfl⟩
  · obtain ⟨r, h1, h2, h3⟩ := tr_ok x.length (k + 20) x rfl (by omega) (by omega)
    obtain ⟨r', h4, h5⟩ := tl_ok r (k + 20) (by omega)
    have e : bytes_Trim.f (k + 20) x [0] = (bytes_trimRightByte.f (k + 20) x 0).bind fun t21 => (bytes_trimLeftByte.f (k + 20) t21 0).bind fun t24 => some t24 := by
      unfold bytes_Trim.f
      have hs : (((bstr ([0] : List UInt8)).size : Int) == (1 : Int)) = true := rfl
      have ez : ((([0] : List UInt8).getD (Int.toNat (0 : Int)) 0).toNat : Int) = 0 := rfl
      rw [if_neg (by simpa using h0), if_neg (by rw [bstr_toList, bstr_toList]; decide), if_pos hs, ez, if_pos (by decide), Option.bind_some, if_pos (by decide), if_pos (by decide), if_pos (by decide)]
    rw [e]
    unfold bytes_trimRightByte.f bytes_trimLeftByte.f
    rw [h1, Option.bind_some, Option.bind_some, h4, Option.bind_some]
    by_cases hr : r'.length = 0
    · obtain rfl := List.eq_nil_of_length_eq_zero hr
      exact ⟨[], rfl, by rw [← h3, ← h5]⟩
    · rw [if_neg (by simpa using hr)]
      exact ⟨r', rfl, by rw [h5, h3]⟩
/-! addresses -/
def isSz (n : Int) : Bool := n == 0 || n == 4 || n == 16
def rightB (a : S_api_Addr) : Bool := isSz a.Size && ((arL 16 a.B).drop a.Size.toNat).all (· == 0)
theorem isSz_or {n : Int} (h : isSz n = true) : n = 0 ∨ n = 4 ∨ n = 16 := by
  unfold isSz at h
  simp only [Bool.or_eq_true, beq_iff_eq] at h
  omega
theorem right_go (k : Nat) (a : S_api_Addr) (h : a.Size = 0 ∨ a.Size = 4 ∨ a.Size = 16) : addr_Right.f (k + 20) a = some (((arL 16 a.B).drop a.Size.toNat).all (· == 0)) := by
  have h16 : (arL 16 a.B).length = 16 := arL_length _ _
  have ht : (arL 16 a.B).take (Int.toNat 16) = arL 16 a.B := by rw [List.take_of_length_le]; rw [h16]; exact Nat.le_refl _
  obtain ⟨r, h1, h2⟩ := trim_ok k ((arL 16 a.B).drop a.Size.toNat) (by rw [List.length_drop, h16]; omega)
  have hc : (if (a.Size == (0 : Int)) = true then some (a.Size == (0 : Int) : Bool) else (if (a.Size == (4 : Int)) = true then some (a.Size == (4 : Int) : Bool) else some (a.Size == (16 : Int) : Bool))) = some true := by
    rcases h with h | h | h <;> simp [h]
  unfold addr_Right.f
  rw [ht, hc, Option.bind_some, if_pos rfl, if_pos (by omega), h1, Option.bind_some, h2]
theorem right_ok (k : Nat) (a : S_api_Addr) : addr_Right.f (k + 20) a = some (rightB a) := by
  by_cases h : a.Size = 0 ∨ a.Size = 4 ∨ a.Size = 16
  · rw [right_go k a h]
    have : isSz a.Size = true := by unfold isSz; simp; omega
    unfold rightB
    rw [this, Bool.true_and]
  · have h0 : ¬ a.Size = 0 := by omega
    have h4 : ¬ a.Size = 4 := by omega
    have h16 : ¬ a.Size = 16 := by omega
    unfold addr_Right.f rightB isSz
    simp [h0, h4, h16]
theorem eqA_eq {x y : List Int} (hx : x.length = 16) (hy : y.length = 16) : eqA 16 x y = (x == y) := by
  rw [Bool.eq_iff_iff, eqA_iff]
  simp only [beq_iff_eq]
  refine ⟨fun h => ?_, fun e => by subst e; exact fun _ _ => rfl⟩
  apply List.ext_getElem
  · omega
  · intro i h1 h2
    have := h i (by omega)
    rwa [ar_at _ _ h1, ar_at _ _ h2] at this
theorem addr_eq {a b : S_api_Addr} (ha : a.B.length = 16) (hb : b.B.length = 16) : ((a.Size == b.Size) && (eqA 16 a.B b.B && true)) = decide (a = b) := by
  rw [eqA_eq ha hb, Bool.eq_iff_iff]
  obtain ⟨s, x⟩ := a
  obtain ⟨s', x'⟩ := b
  simp
/-! bits of addresses -/
def bitL (l : List Int) (i : Nat) : Bool := (ar l (i / 8)).toNat.testBit (7 - i % 8)
theorem bits_ext {x y : List Int} (hx : x.length = 16) (hy : y.length = 16) (Bx : isB x) (By : isB y) (h : ∀ i, i < 128 → bitL x i = bitL y i) : x = y := by
  apply List.ext_getElem
  · omega
  · intro j h1 h2
    have b1 := Bx x[j] (List.getElem_mem h1)
    have b2 := By y[j] (List.getElem_mem h2)
    have e : (x[j]).toNat = (y[j]).toNat := by
      apply Nat.eq_of_testBit_eq
      intro k
      by_cases hk : k < 8
      · have := h (8 * j + (7 - k)) (by omega)
        unfold bitL at this
        rw [show (8 * j + (7 - k)) / 8 = j by omega, show 7 - (8 * j + (7 - k)) % 8 = k by omega, ar_at _ _ h1, ar_at _ _ h2] at this
        exact this
      · have p : 256 ≤ 2 ^ k := by
          have := Nat.pow_le_pow_right (n := 2) (by decide) (show 8 ≤ k by omega)
          simpa using this
        rw [Nat.testBit_lt_two_pow (by omega), Nat.testBit_lt_two_pow (by omega)]
    omega
def maskI (m : Int) : Int := if m ≤ 0 then 0 else if m ≥ 8 then 255 else IntKind.u8.wrap (255 * 2 ^ (8 - m).toNat)
theorem mask_ok (m : Int) (h : -1000 ≤ m ∧ m ≤ 1000) : addr_mask.f m = some (maskI m) := by
  unfold addr_mask.f maskI
  simp only [decide_eq_true_eq]
  split
  · rfl
  · split
    · rfl
    · rw [w64 _ (by omega), if_pos (by omega), Nat.min_eq_left (by have : IntKind.u8.bits = 8 := rfl; omega)]
theorem mask_small : ∀ m : Fin 8, 1 ≤ m.val → 0 ≤ maskI (m.val : Int) ∧ maskI (m.val : Int) ≤ 255 ∧ ∀ j : Fin 8, (maskI (m.val : Int)).toNat.testBit (7 - j.val) = decide (j.val < m.val) := by decide
theorem mask_range (m : Int) : 0 ≤ maskI m ∧ maskI m ≤ 255 := by
  by_cases h1 : m ≤ 0
  · unfold maskI; rw [if_pos h1]; decide
  · by_cases h2 : m ≥ 8
    · unfold maskI; rw [if_neg h1, if_pos h2]; decide
    · have := mask_small ⟨m.toNat, by omega⟩ (by simp; omega)
      simp only [show ((m.toNat : Nat) : Int) = m by omega] at this
      exact ⟨this.1, this.2.1⟩
theorem mask_bit (m : Int) (j : Nat) (hj : j < 8) : (maskI m).toNat.testBit (7 - j) = decide ((j : Int) < m) := by
  by_cases h1 : m ≤ 0
  · unfold maskI; rw [if_pos h1]; simp; omega
  · by_cases h2 : m ≥ 8
    · unfold maskI; rw [if_neg h1, if_pos h2]
      have : ∀ j : Fin 8, (255 : Int).toNat.testBit (7 - j.val) = true := by decide
      rw [this ⟨j, hj⟩]
      simp; omega
    · have := (mask_small ⟨m.toNat, by omega⟩ (by simp; omega)).2.2 ⟨j, hj⟩
      simp only [show ((m.toNat : Nat) : Int) = m by omega] at this
      rw [this, Bool.eq_iff_iff]
      simp only [decide_eq_true_eq]
      omega
def andI (x y : Int) : Int := ((x.toNat &&& y.toNat : Nat) : Int)
theorem and_u8 (x y : Int) (hx : 0 ≤ x ∧ x ≤ 255) (hy : 0 ≤ y ∧ y ≤ 255) : IntKind.u8.wrap (BitVec.ofInt IntKind.u8.bits x &&& BitVec.ofInt IntKind.u8.bits y).toNat = andI x y := by
  rw [BitVec.toNat_and, BitVec.toNat_ofInt, BitVec.toNat_ofInt]
  have e : IntKind.u8.bits = 8 := rfl
  rw [e]
  have h1 : (x % ((2 ^ 8 : Nat) : Int)).toNat = x.toNat := by
    have : ((2 ^ 8 : Nat) : Int) = 256 := rfl
    omega
  have h2 : (y % ((2 ^ 8 : Nat) : Int)).toNat = y.toNat := by
    have : ((2 ^ 8 : Nat) : Int) = 256 := rfl
    omega
  rw [h1, h2]
  have h3 : x.toNat &&& y.toNat ≤ x.toNat := Nat.and_le_left
  unfold andI
  rw [IntKind.wrap_u8]; omega
theorem andI_range (x y : Int) (hx : 0 ≤ x ∧ x ≤ 255) : 0 ≤ andI x y ∧ andI x y ≤ 255 := by
  have h3 : x.toNat &&& y.toNat ≤ x.toNat := Nat.and_le_left
  unfold andI
  omega
def cutTo (l : List Int) (b : Int) (i : Nat) : List Int := (List.range 16).map fun j => if j < i then andI (ar l j) (maskI (b - 8 * j)) else ar l j
def cutL (l : List Int) (b : Int) : List Int := cutTo l b 16
theorem cutTo_len (l : List Int) (b : Int) (i : Nat) : (cutTo l b i).length = 16 := by simp [cutTo]
theorem cutTo_ar (l : List Int) (b : Int) (i j : Nat) (hj : j < 16) : ar (cutTo l b i) j = if j < i then andI (ar l j) (maskI (b - 8 * j)) else ar l j := by
  rw [ar_at _ _ (by rw [cutTo_len]; exact hj)]
  simp [cutTo]
theorem ar_isB {l : List Int} (h : isB l) (j : Nat) : 0 ≤ ar l j ∧ ar l j ≤ 255 := by
  by_cases hj : j < l.length
  · rw [ar_at l j hj]; exact h _ (List.getElem_mem hj)
  · have : ar l j = 0 := by simp [ar, List.getD, List.getElem?_eq_none (Nat.not_lt.1 hj)]
    rw [this]; decide
theorem cutTo_step (l : List Int) (b : Int) (i : Nat) (hi : i < 16) : (arL 16 (cutTo l b i)).set i (andI (ar (cutTo l b i) i) (maskI (b - 8 * i))) = cutTo l b (i + 1) := by
  have e : arL 16 (cutTo l b i) = cutTo l b i := by
    have := arL_self (cutTo l b i)
    rwa [cutTo_len] at this
  rw [e, cutTo_ar _ _ _ _ hi, if_neg (Nat.lt_irrefl i)]
  apply List.ext_getElem
  · simp [cutTo_len]
  · intro j h1 h2
    rw [List.getElem_set]
    have hj : j < 16 := by rwa [cutTo_len] at h2
    simp only [cutTo, List.getElem_map, List.getElem_range]
    by_cases h : i = j
    · subst h; rw [if_pos rfl, if_pos (by omega)]
    · rw [if_neg h]
      by_cases h' : j < i
      · rw [if_pos h', if_pos (by omega)]
      · rw [if_neg h', if_neg (by omega)]
theorem cut_go (l : List Int) (hl : isB l) (b : Int) (hb : -500 ≤ b ∧ b ≤ 500) : ∀ (m i k : Nat), 16 - i ≤ m → i ≤ 16 → addr_cut.l0 b (m + 1 + k) (i : Int) (cutTo l b i) = some (cutL l b) := by
  intro m
  induction m with
  | zero =>
    intro i k h1 h2
    have : i = 16 := by omega
    subst this
    rw [show 0 + 1 + k = k + 1 by omega]
    unfold addr_cut.l0
    simp [cutL]
  | succ m ih =>
    intro i k h1 h2
    rw [show m + 1 + 1 + k = (m + 1 + k) + 1 by omega]
    by_cases hi : i = 16
    · subst hi
      unfold addr_cut.l0
      simp [cutL]
    · have hi' : i < 16 := by omega
      unfold addr_cut.l0
      rw [if_pos (by simp; omega), if_pos ⟨by omega, by omega⟩, w64 (8 * (i : Int)) (by omega), w64 (b - 8 * (i : Int)) (by omega), mask_ok _ (by omega), Option.bind_some, if_pos ⟨by omega, by omega⟩, Int.toNat_natCast,
        and_u8 _ _ (ar_isB (fun y hy => ?_) i) (mask_range _), cutTo_step l b i hi', w64 _ (by omega), show (i : Int) + 1 = ((i + 1 : Nat) : Int) by omega]
      · exact ih (i + 1) k (by omega) (by omega)
      · simp only [cutTo, List.mem_map, List.mem_range] at hy
        obtain ⟨j, _, rfl⟩ := hy
        split
        · exact andI_range _ _ (ar_isB hl j)
        · exact ar_isB hl j
theorem cutL_isB {l : List Int} (hl : isB l) (b : Int) : isB (cutL l b) := fun y hy => by
  simp only [cutL, cutTo, List.mem_map, List.mem_range] at hy
  obtain ⟨j, hj, rfl⟩ := hy
  first
    | exact andI_range _ _ (ar_isB hl j)
    | (rw [if_pos hj]; exact andI_range _ _ (ar_isB hl j))
theorem cutTo_0 (l : List Int) (hl : l.length = 16) (b : Int) : cutTo l b 0 = l := by
  have := arL_self l
  rw [hl] at this
  unfold arL at this
  simp only [cutTo, Nat.not_lt_zero, if_false]
  exact this
theorem cutf_ok (k : Nat) (a : S_api_Addr) (ha : isB a.B) (hl : a.B.length = 16) (b : Int) (hb : -500 ≤ b ∧ b ≤ 500) : addr_cut.f (k + 20) a b = some ⟨a.Size, cutL a.B b⟩ := by
  unfold addr_cut.f
  have := cut_go a.B ha b hb 16 0 (k + 3) (by omega) (by omega)
  rw [cutTo_0 _ hl] at this
  rw [show k + 20 = 16 + 1 + (k + 3) by omega, show (0 : Int) = ((0 : Nat) : Int) from rfl, this]
  rfl
theorem cut_bit (l : List Int) (b : Int) (i : Nat) (hi : i < 128) : bitL (cutL l b) i = (bitL l i && decide ((i : Int) < b)) := by
  unfold bitL cutL
  rw [cutTo_ar _ _ _ _ (by omega), if_pos (by omega)]
  unfold andI
  rw [Int.toNat_natCast, Nat.testBit_and, mask_bit _ _ (by omega)]
  congr 1
  rw [Bool.eq_iff_iff]
  simp
  omega
/-! cut, has -/
def zs16 : List Int := List.replicate 16 0
def cutOk (a : S_api_Addr) (b : Int) : Bool := rightB a && (a.Size != 0 && (decide (0 ≤ b) && decide (b ≤ 8 * a.Size)))
theorem rightB_size {a : S_api_Addr} (h : rightB a = true) : a.Size = 0 ∨ a.Size = 4 ∨ a.Size = 16 := isSz_or (by unfold rightB at h; simp only [Bool.and_eq_true] at h; exact h.1)
theorem cutOk_range {a : S_api_Addr} {b : Int} (h : cutOk a b = true) : rightB a = true ∧ (a.Size = 4 ∨ a.Size = 16) ∧ 0 ≤ b ∧ b ≤ 8 * a.Size ∧ b ≤ 128 := by
  unfold cutOk at h
  simp only [Bool.and_eq_true, decide_eq_true_eq, bne_iff_ne, ne_eq] at h
  have := rightB_size h.1
  refine ⟨h.1, ?_, h.2.2.1, h.2.2.2, ?_⟩ <;> omega
def cutP (a : S_api_Addr) (b : Int) : S_api_Prefix := ⟨⟨a.Size, cutL a.B b⟩, b⟩
theorem Cut_ok (k : Nat) (a : S_api_Addr) (ha : isB a.B) (hl : a.B.length = 16) (b : Int) : addr_Cut.f (k + 20) a b = some (if cutOk a b = true then (cutP a b, 0) else (⟨⟨0, zs16⟩, 0⟩, 1)) := by
  unfold addr_Cut.f
  rw [right_ok, Option.bind_some]
  by_cases h1 : rightB a = true
  · have hs := rightB_size h1
    rw [h1]
    simp only [Bool.not_true, Bool.false_eq_true, if_false]
    by_cases h2 : a.Size = 0
    · rw [if_pos (by simp [h2]), Option.bind_some, if_pos rfl, if_neg (by simp [cutOk, h2])]; rfl
    · rw [if_neg (by simpa using h2)]
      by_cases h3 : b < 0
      · rw [if_pos (by simpa using h3), Option.bind_some, if_pos rfl, if_neg (by simp [cutOk]; omega)]; rfl
      · rw [if_neg (by simpa using h3), Option.bind_some, w64 _ (by omega)]
        by_cases h4 : b > 8 * a.Size
        · rw [if_pos (by simpa using h4), if_neg (by simp [cutOk]; omega)]; rfl
        · rw [if_neg (by simpa using h4), if_pos (by simp [cutOk, h1, h2]; omega), cutf_ok k a ha hl b (by omega)]
          rfl
  · have : rightB a = false := by simpa using h1
    rw [this]
    simp only [Bool.not_false, if_true, Option.bind_some]
    rw [if_neg (by simp [cutOk, this])]
    rfl
theorem pre_eq {p q : S_api_Prefix} (hp : p.Addr.B.length = 16) (hq : q.Addr.B.length = 16) : ((((p.Addr.Size == q.Addr.Size) && ((eqA 16 p.Addr.B q.Addr.B) && true)) && ((p.Bits == q.Bits) && true))) = decide (p = q) := by
  rw [addr_eq hp hq, Bool.eq_iff_iff]
  obtain ⟨a, x⟩ := p
  obtain ⟨b, y⟩ := q
  simp
theorem cutL_len (l : List Int) (b : Int) : (cutL l b).length = 16 := cutTo_len l b 16
def rightP (p : S_api_Prefix) : Bool := cutOk p.Addr p.Bits && (cutL p.Addr.B p.Bits == p.Addr.B)
theorem rightP_ok (k : Nat) (p : S_api_Prefix) (hB : isB p.Addr.B) (hl : p.Addr.B.length = 16) : addr_right.f (k + 20) p = some (rightP p) := by
  unfold addr_right.f
  rw [Cut_ok k _ hB hl, Option.bind_some]
  by_cases h : cutOk p.Addr p.Bits = true
  · rw [if_pos h]
    simp only [beq_self_eq_true, if_true, Option.bind_some]
    rw [pre_eq (by unfold cutP; exact cutL_len _ _) hl]
    unfold rightP
    rw [h, Option.some.injEq, Bool.eq_iff_iff]
    obtain ⟨⟨s, l⟩, b⟩ := p
    simp [cutP]
  · rw [if_neg h]
    have : cutOk p.Addr p.Bits = false := by simpa using h
    unfold rightP
    rw [this]
    rfl
def hasB (p : S_api_Prefix) (a : S_api_Addr) : Bool := rightP p && (rightB a && ((a.Size == p.Addr.Size) && (cutL a.B p.Bits == p.Addr.B)))
theorem has_ok (k : Nat) (p : S_api_Prefix) (a : S_api_Addr) (hB : isB p.Addr.B) (hl : p.Addr.B.length = 16) (hBa : isB a.B) (hla : a.B.length = 16) : addr_Has.f (k + 20) p a = some (hasB p a) := by
  unfold addr_Has.f
  rw [rightP_ok k p hB hl, right_ok]
  simp only [Option.bind_some]
  unfold hasB
  cases hp : rightP p with
  | false => rfl
  | true =>
    have hr := cutOk_range (a := p.Addr) (b := p.Bits) (by unfold rightP at hp; simp only [Bool.and_eq_true] at hp; exact hp.1)
    rw [if_pos rfl]
    cases hq : rightB a with
    | false => rfl
    | true =>
      rw [if_pos rfl]
      by_cases hs : a.Size = p.Addr.Size
      · rw [if_pos (by simpa using hs), cutf_ok k a hBa hla p.Bits (by omega), Option.bind_some, Option.bind_some, eqA_eq (cutL_len _ _) hl]
        simp [hs]
      · rw [if_neg (by simpa using hs), Option.bind_some]
        simp [hs]
theorem cut_cut (l : List Int) (hl : isB l) (i k : Int) : cutL (cutL l i) k = cutL l (min i k) := by
  refine bits_ext (cutL_len _ _) (cutL_len _ _) (cutL_isB (cutL_isB hl i) k) (cutL_isB hl _) fun j hj => ?_
  rw [cut_bit _ _ _ hj, cut_bit _ _ _ hj, cut_bit _ _ _ hj, Bool.and_assoc]
  congr 1
  rw [Bool.eq_iff_iff]
  simp only [Bool.and_eq_true, decide_eq_true_eq]
  omega
theorem rightB_iff (a : S_api_Addr) : rightB a = true ↔ isSz a.Size = true ∧ ∀ j, a.Size.toNat ≤ j → j < 16 → ar a.B j = 0 := by
  unfold rightB
  rw [Bool.and_eq_true, List.all_eq_true]
  refine and_congr_right fun _ => ⟨fun h j h1 h2 => ?_, fun h x hx => ?_⟩
  · have := h (ar a.B j) (by
      rw [List.mem_iff_getElem]
      refine ⟨j - a.Size.toNat, by rw [List.length_drop, arL_length]; omega, ?_⟩
      rw [List.getElem_drop]
      simp only [arL, List.getElem_map, List.getElem_range]
      congr 1; omega)
    simpa using this
  · obtain ⟨i, hi, rfl⟩ := List.mem_iff_getElem.1 hx
    rw [List.length_drop, arL_length] at hi
    rw [List.getElem_drop]
    simp only [arL, List.getElem_map, List.getElem_range, beq_iff_eq]
    exact h _ (by omega) (by omega)
theorem right_cut {a : S_api_Addr} (b : Int) (h : rightB a = true) : rightB ⟨a.Size, cutL a.B b⟩ = true := by
  rw [rightB_iff] at h ⊢
  refine ⟨h.1, fun j h1 h2 => ?_⟩
  unfold cutL
  simp only
  rw [cutTo_ar _ _ _ _ h2, if_pos h2, h.2 j h1 h2]
  simp [andI]
theorem cutP_right {a : S_api_Addr} {b : Int} (ha : isB a.B) (h : cutOk a b = true) : rightP (cutP a b) = true := by
  unfold rightP cutP
  simp only [cut_cut _ ha, Bool.and_eq_true, beq_iff_eq]
  have hr := cutOk_range h
  refine ⟨?_, by rw [Int.min_self]⟩
  unfold cutOk
  rw [right_cut b hr.1]
  simp
  omega
theorem has_cutP {a c : S_api_Addr} {b : Int} (ha : isB a.B) (h : cutOk a b = true) : hasB (cutP a b) c = (rightB c && ((c.Size == a.Size) && (cutL c.B b == cutL a.B b))) := by
  unfold hasB
  rw [cutP_right ha h]
  rfl
theorem small_ok (k : Nat) : vinerylaw02_small.f (k + 60) = some true := by kernel_rfl
theorem AddrCuts.law (a : S_api_Addr) (ha : okS_api_Addr a) (i : Int) (hi : okI .i64 i) (j : Int) (hj : okI .i64 j) : ∃ k, vinerylaw02_AddrCuts.f k a i j = some true := by
  refine ⟨60, ?_⟩
  have la := ha.2.1
  have Ba := okA_isB ha.2
  unfold vinerylaw02_AddrCuts.f
  rw [small_ok 0, Option.bind_some, Cut_ok 40 a Ba la, Option.bind_some]
  by_cases h1 : cutOk a i = true
  · rw [if_pos h1]
    have lp : (cutP a i).Addr.B.length = 16 := cutL_len _ _
    have Bp : isB (cutP a i).Addr.B := cutL_isB Ba i
    have hr := cutOk_range h1
    have x2 := Cut_ok 40 (cutP a i).Addr Bp lp j
    have e2 : cutOk (cutP a i).Addr j = (decide (0 ≤ j) && decide (j ≤ 8 * a.Size)) := by
      unfold cutP cutOk
      simp only
      rw [right_cut i hr.1]
      have : (a.Size != 0) = true := by simp; omega
      rw [this]
      simp
    rw [e2] at x2
    simp only [x2, Option.bind_some, bne_self_eq_false, Bool.false_eq_true, if_false]
    by_cases h2 : (decide (0 ≤ j) && decide (j ≤ 8 * a.Size)) = true
    · rw [if_pos h2]
      simp only [Bool.and_eq_true, decide_eq_true_eq] at h2
      have h3 : cutOk a (if j < i then j else i) = true := by
        unfold cutOk
        rw [hr.1]
        have : (a.Size != 0) = true := by simp; omega
        rw [this]
        simp
        split <;> omega
      have x3 := Cut_ok 40 a Ba la (if j < i then j else i)
      rw [if_pos h3] at x3
      simp only [x3, Option.bind_some, bne_self_eq_false, Bool.false_eq_true, if_false]
      have e4 : ((cutP (cutP a i).Addr j).Addr.Size == (cutP a (if j < i then j else i)).Addr.Size && (eqA 16 (cutP (cutP a i).Addr j).Addr.B (cutP a (if j < i then j else i)).Addr.B && true)) = true := by
        rw [addr_eq (cutL_len _ _) (cutL_len _ _)]
        simp only [decide_eq_true_eq]
        unfold cutP
        simp only [cut_cut _ Ba]
        rw [show min i j = if j < i then j else i by split <;> omega]
      rw [e4]
      simp [cutP]
    · rw [if_neg h2, w64 _ (by omega)]
      simp only [Bool.and_eq_true, decide_eq_true_eq] at h2
      by_cases h3 : j < 0
      · simp [h3]
      · simp [h3]; omega
  · rw [if_neg h1]
    simp only [if_true, Option.bind_some]
    simp [zs16, eqA_eq, show (1 : Int) != 0 from by decide]
end Go.E
