/- The plain law: what the walk computes is true, whatever the input. -/
import Derived.Test.YtkmgglijdfbhpaaDoorGenAddrBytes
import Derived.Test.YtkmgglijdfbhpaaDoorEngR
set_option linter.unusedVariables false
set_option linter.unusedSimpArgs false
namespace Go.E
theorem bstr_toList (l : List UInt8) : (bstr l).toList = l := by rw [ByteArray.toList_eq]; simp [bstr]
theorem w64 (n : Int) (h : -9223372036854775808 ≤ n ∧ n ≤ 9223372036854775807) : IntKind.i64.wrap n = n := by rw [IntKind.wrap_i64]; omega
def isB (l : List Int) : Prop := ∀ y ∈ l, 0 ≤ y ∧ y ≤ 255
theorem okL_isB {l : List Int} (h : okL 1 (okI .u8) l) : isB l := fun y hy => by
  have := h.2 y hy
  have e1 : IntKind.u8.min = 0 := rfl
  have e2 : IntKind.u8.max = 255 := rfl
  unfold okI at this
  omega
theorem okA_isB {l : List Int} {n : Nat} (h : okA .u8 n l) : isB l := fun y hy => by
  have := h.2 y hy
  have e1 : IntKind.u8.min = 0 := rfl
  have e2 : IntKind.u8.max = 255 := rfl
  unfold okI at this
  omega
theorem okL_len {l : List Int} {ok : Int → Prop} (h : okL 1 ok l) : l.length ≤ 140737488351232 := by have := h.1; unfold reachBytes at this; omega
theorem isB.app {a b : List Int} (h : isB a) (h' : isB b) : isB (a ++ b) := fun y hy => (List.mem_append.1 hy).elim (h y) (h' y)
theorem b2s_inj : ∀ {a b : List Int}, isB a → isB b → b2s a = b2s b → a = b
  | [], [], _, _, _ => rfl
  | [], _ :: _, _, _, h => by simp [b2s] at h
  | _ :: _, [], _, _, h => by simp [b2s] at h
  | x :: a, y :: b, ha, hb, h => by
    simp only [b2s, List.map_cons, List.cons.injEq] at h
    have h1 := ha x (by simp); have h2 := hb y (by simp)
    have e := congrArg UInt8.toNat h.1
    rw [UInt8.toNat_ofNat', UInt8.toNat_ofNat'] at e
    rw [b2s_inj (fun z hz => ha z (by simp [hz])) (fun z hz => hb z (by simp [hz])) h.2, show x = y by omega]
theorem b2s_beq {a b : List Int} (ha : isB a) (hb : isB b) : (b2s a == b2s b) = (a == b) := by
  rw [Bool.eq_iff_iff]
  simp only [beq_iff_eq]
  exact ⟨b2s_inj ha hb, fun e => by rw [e]⟩
theorem rd_at (l : List Int) (i : Nat) (hi : i < l.length) : rd l (i : Int) = l[i] := by simp [rd, List.getD, hi]
theorem ar_at (l : List Int) (i : Nat) (hi : i < l.length) : ar l i = l[i] := by simp [ar, List.getD, hi]
theorem arL_self (l : List Int) : arL l.length l = l := by
  apply List.ext_getElem
  · simp [arL]
  · intro i h1 h2
    simp [arL, ar_at l i h2]
/-! trimming zeros -/
theorem tr_nil (k : Nat) : bytes_trimRightByte.l0 0 (k + 1) [] = some [] := by unfold bytes_trimRightByte.l0; simp
theorem tr_snoc (k : Nat) (y : List Int) (c : Int) (h : y.length ≤ 100) : bytes_trimRightByte.l0 0 (k + 1) (y ++ [c]) = if c = 0 then bytes_trimRightByte.l0 0 k y else some (y ++ [c]) := by
  rw [bytes_trimRightByte.l0]
  have hl : (y ++ [c]).length = y.length + 1 := by simp
  have e : IntKind.i64.wrap (((y ++ [c]).length : Int) - 1) = (y.length : Int) := by rw [hl, IntKind.wrap_i64]; omega
  have er : rd (y ++ [c]) (y.length : Int) = c := by rw [rd_at _ _ (by simp)]; simp
  rw [e, er, if_pos (by simp <;> omega), if_pos (by rw [hl]; omega), Option.bind_some]
  by_cases hc : c = 0
  · rw [if_pos (by simpa using hc), if_pos (by rw [hl]; simp <;> omega), if_pos hc]
    simp
  · rw [if_neg (by simpa using hc), if_neg hc]
theorem tr_ok : ∀ (n k : Nat) (x : List Int), x.length = n → n < k → n ≤ 100 → ∃ r, bytes_trimRightByte.l0 0 k x = some r ∧ r.length ≤ x.length ∧ r.all (· == 0) = x.all (· == 0)
  | 0, k, x, h, hk, _ => by
    obtain ⟨k, rfl⟩ : ∃ k', k = k' + 1 := ⟨k - 1, by omega⟩
    obtain rfl := List.eq_nil_of_length_eq_zero h
    exact ⟨[], tr_nil k, Nat.le_refl _, rfl⟩
  | n + 1, k, x, h, hk, hn => by
    obtain ⟨k, rfl⟩ : ∃ k', k = k' + 1 := ⟨k - 1, by omega⟩
    have hne : x ≠ [] := by intro e; subst e; simp at h
    have hx : x = x.dropLast ++ [x.getLast hne] := (List.dropLast_concat_getLast hne).symm
    have hd : x.dropLast.length = n := by simp [h]
    generalize x.dropLast = y at hx hd
    generalize x.getLast hne = c at hx
    subst hx
    rw [tr_snoc k y c (by omega)]
    by_cases hc : c = 0
    · obtain ⟨r, h1, h2, h3⟩ := tr_ok n k y hd (by omega) (by omega)
      exact ⟨r, by rw [if_pos hc]; exact h1, by simp; omega, by rw [h3]; simp [hc]⟩
    · exact ⟨_, if_neg hc, Nat.le_refl _, rfl⟩
theorem tl_nil (k : Nat) : bytes_trimLeftByte.l0 0 (k + 1) [] = some [] := by unfold bytes_trimLeftByte.l0; simp
theorem tl_cons (k : Nat) (y : List Int) (c : Int) : bytes_trimLeftByte.l0 0 (k + 1) (c :: y) = if c = 0 then bytes_trimLeftByte.l0 0 k y else some (c :: y) := by
  rw [bytes_trimLeftByte.l0]
  have er : rd (c :: y) 0 = c := rfl
  rw [er, if_pos (by simp <;> omega), if_pos (by simp <;> omega), Option.bind_some]
  by_cases hc : c = 0
  · rw [if_pos (by simpa using hc), if_pos (by simp <;> omega), if_pos hc]
    simp
  · rw [if_neg (by simpa using hc), if_neg hc]
theorem tl_ok : ∀ (x : List Int) (k : Nat), x.length < k → ∃ r, bytes_trimLeftByte.l0 0 k x = some r ∧ (((r.length : Int) == 0) = x.all (· == 0))
  | [], k, hk => by
    obtain ⟨k, rfl⟩ : ∃ k', k = k' + 1 := ⟨k - 1, by omega⟩
    exact ⟨[], tl_nil k, rfl⟩
  | c :: y, k, hk => by
    obtain ⟨k, rfl⟩ : ∃ k', k = k' + 1 := ⟨k - 1, by omega⟩
    rw [tl_cons]
    by_cases hc : c = 0
    · obtain ⟨r, h1, h2⟩ := tl_ok y k (by simp at hk; omega)
      exact ⟨r, by rw [if_pos hc]; exact h1, by rw [h2]; simp [hc]⟩
    · refine ⟨_, if_neg hc, ?_⟩
      have : (c == 0) = false := by simpa using hc
      simp only [List.all_cons, this, Bool.false_and]
      simp
      omega
theorem trim_ok (k : Nat) (x : List Int) (hx : x.length ≤ 16) : ∃ r, bytes_Trim.f (k + 20) x [0] = some r ∧ (((r.length : Int) == 0) = x.all (· == 0)) := by
  by_cases h0 : x.length = 0
  · obtain rfl := List.eq_nil_of_length_eq_zero h0
    exact ⟨[], rfl, rfl⟩
  · obtain ⟨r, h1, h2, h3⟩ := tr_ok x.length (k + 20) x rfl (by omega) (by omega)
    obtain ⟨r', h4, h5⟩ := tl_ok r (k + 20) (by omega)
    have e : bytes_Trim.f (k + 20) x [0] = (bytes_trimRightByte.f (k + 20) x 0).bind fun t21 => (bytes_trimLeftByte.f (k + 20) t21 0).bind fun t24 => some t24 := by
      unfold bytes_Trim.f
      have hs : (((bstr ([0] : List UInt8)).size : Int) == (1 : Int)) = true := rfl
      have ez : ((([0] : List UInt8).getD (Int.toNat (0 : Int)) 0).toNat : Int) = 0 := rfl
      rw [if_neg (by simpa using h0), if_neg (by rw [bstr_toList, bstr_toList]; decide), if_pos hs, ez, if_pos (by decide), Option.bind_some, if_pos (by decide), if_pos (by decide), if_pos (by decide)]
    rw [e]
    unfold bytes_trimRightByte.f bytes_trimLeftByte.f
    rw [h1, Option.bind_some, Option.bind_some, h4, Option.bind_some]
    by_cases hr : r'.length = 0
    · obtain rfl := List.eq_nil_of_length_eq_zero hr
      exact ⟨[], rfl, by rw [← h3, ← h5]⟩
    · rw [if_neg (by simpa using hr)]
      exact ⟨r', rfl, by rw [h5, h3]⟩
/-! addresses -/
def isSz (n : Int) : Bool := n == 0 || n == 4 || n == 16
def rightB (a : S_api_Addr) : Bool := isSz a.Size && ((arL 16 a.B).drop a.Size.toNat).all (· == 0)
theorem isSz_or {n : Int} (h : isSz n = true) : n = 0 ∨ n = 4 ∨ n = 16 := by
  unfold isSz at h
  simp only [Bool.or_eq_true, beq_iff_eq] at h
  omega
theorem right_go (k : Nat) (a : S_api_Addr) (h : a.Size = 0 ∨ a.Size = 4 ∨ a.Size = 16) : addr_Right.f (k + 20) a = some (((arL 16 a.B).drop a.Size.toNat).all (· == 0)) := by
  have h16 : (arL 16 a.B).length = 16 := arL_length _ _
  have ht : (arL 16 a.B).take (Int.toNat 16) = arL 16 a.B := by rw [List.take_of_length_le]; rw [h16]; exact Nat.le_refl _
  obtain ⟨r, h1, h2⟩ := trim_ok k ((arL 16 a.B).drop a.Size.toNat) (by rw [List.length_drop, h16]; omega)
  have hc : (if (a.Size == (0 : Int)) = true then some (a.Size == (0 : Int) : Bool) else (if (a.Size == (4 : Int)) = true then some (a.Size == (4 : Int) : Bool) else some (a.Size == (16 : Int) : Bool))) = some true := by
    rcases h with h | h | h <;> simp [h]
  unfold addr_Right.f
  rw [ht, hc, Option.bind_some, if_pos rfl, if_pos (by omega), h1, Option.bind_some, h2]
theorem right_ok (k : Nat) (a : S_api_Addr) : addr_Right.f (k + 20) a = some (rightB a) := by
  by_cases h : a.Size = 0 ∨ a.Size = 4 ∨ a.Size = 16
  · rw [right_go k a h]
    have : isSz a.Size = true := by unfold isSz; simp; omega
    unfold rightB
    rw [this, Bool.true_and]
  · have h0 : ¬ a.Size = 0 := by omega
    have h4 : ¬ a.Size = 4 := by omega
    have h16 : ¬ a.Size = 16 := by omega
    unfold addr_Right.f rightB isSz
    simp [h0, h4, h16]
theorem clone_ok (l : List Int) (h : l.length ≤ 140737488355328) : bytes_Clone.f l = some l := if_pos h
def zeros : List Int := List.replicate 16 0
theorem of_ok (b : List Int) : addr_Of.f b = some (if isSz b.length = true then (⟨b.length, arC 16 zeros b⟩, 0) else (⟨0, zeros⟩, 1)) := by
  have hc : ∀ n : Int, (if (n == (0 : Int)) = true then some (n == (0 : Int) : Bool) else (if (n == (4 : Int)) = true then some (n == (4 : Int) : Bool) else some (n == (16 : Int) : Bool))) = some (isSz n) := by
    intro n
    unfold isSz
    cases h : (n == 0) <;> cases h' : (n == 4) <;> simp
  unfold addr_Of.f
  rw [hc, Option.bind_some]
  cases isSz (b.length : Int) <;> rfl
def rootL (a : S_api_Addr) : List Int := (arL 16 a.B).take a.Size.toNat
theorem addrbytes_ok (k : Nat) (a : S_api_Addr) (h : rightB a = true) : addr_Bytes.f (k + 20) a = some (rootL a) := by
  unfold addr_Bytes.f
  have hs : a.Size = 0 ∨ a.Size = 4 ∨ a.Size = 16 := isSz_or (by unfold rightB at h; simp only [Bool.and_eq_true] at h; exact h.1)
  rw [right_ok, h, Option.bind_some, if_neg (by simp), if_pos (by omega), clone_ok _ (by simp [arL_length]; omega), Option.bind_some]
  rfl
theorem rootL_length (a : S_api_Addr) (h : rightB a = true) : ((rootL a).length : Int) = a.Size := by
  have hs : a.Size = 0 ∨ a.Size = 4 ∨ a.Size = 16 := isSz_or (by unfold rightB at h; simp only [Bool.and_eq_true] at h; exact h.1)
  unfold rootL
  rw [List.length_take, arL_length]
  omega
theorem root_back (a : S_api_Addr) (h : rightB a = true) (hl : a.B.length = 16) : (⟨((rootL a).length : Int), arC 16 zeros (rootL a)⟩ : S_api_Addr) = a := by
  have hs : a.Size = 0 ∨ a.Size = 4 ∨ a.Size = 16 := isSz_or (by unfold rightB at h; simp only [Bool.and_eq_true] at h; exact h.1)
  have hz : ((arL 16 a.B).drop a.Size.toNat).all (· == 0) = true := by unfold rightB at h; simp only [Bool.and_eq_true] at h; exact h.2
  have hB : arL 16 a.B = a.B := by rw [← hl]; exact arL_self _
  rw [hB] at hz
  have hr := rootL_length a h
  obtain ⟨S, B⟩ := a
  simp only [S_api_Addr.mk.injEq] at *
  refine ⟨hr, ?_⟩
  apply List.ext_getElem
  · rw [arC_length, hl]
  · intro i h1 h2
    have hi : i < 16 := by rw [arC_length] at h1; exact h1
    rw [← ar_at _ i h1, ar_arC _ _ _ _ hi]
    have hrl : (rootL ⟨S, B⟩).length = S.toNat := by omega
    by_cases hlt : i < S.toNat
    · rw [if_pos (by omega)]
      have : rootL ⟨S, B⟩ = B.take S.toNat := by unfold rootL; simp only; rw [hB]
      rw [this, ar_at _ _ (by simp <;> omega)]
      simp
    · rw [if_neg (by omega)]
      have hm : B[i] ∈ B.drop S.toNat := by
        have e : (B.drop S.toNat)[i - S.toNat]? = some B[i] := by rw [List.getElem?_drop, show S.toNat + (i - S.toNat) = i by omega, List.getElem?_eq_getElem h2]
        exact List.mem_of_getElem? e
      have hz' := List.all_eq_true.1 hz B[i] hm
      have : B[i] = 0 := by simpa using hz'
      rw [this]
      unfold zeros ar
      rw [List.getD_eq_getElem?_getD, List.getElem?_replicate, if_pos hi]
      rfl
theorem rootL_isB (a : S_api_Addr) (h : isB a.B) (hl : a.B.length = 16) : isB (rootL a) := by
  have hB : arL 16 a.B = a.B := by rw [← hl]; exact arL_self _
  intro y hy
  unfold rootL at hy
  rw [hB] at hy
  exact h y (List.mem_of_mem_take hy)
/-! tunnels -/
theorem eqA_eq {x y : List Int} (hx : x.length = 16) (hy : y.length = 16) : eqA 16 x y = (x == y) := by
  rw [Bool.eq_iff_iff, eqA_iff]
  simp only [beq_iff_eq]
  refine ⟨fun h => ?_, fun e => by subst e; exact fun _ _ => rfl⟩
  apply List.ext_getElem
  · omega
  · intro i h1 h2
    have := h i (by omega)
    rwa [ar_at _ _ h1, ar_at _ _ h2] at this
theorem addr_eq {a b : S_api_Addr} (ha : a.B.length = 16) (hb : b.B.length = 16) : ((a.Size == b.Size) && (eqA 16 a.B b.B && true)) = decide (a = b) := by
  rw [eqA_eq ha hb, Bool.eq_iff_iff]
  obtain ⟨s, x⟩ := a
  obtain ⟨s', x'⟩ := b
  simp
theorem tail_all_step (x : List Int) (n : Nat) (hn : n < 16) : ((arL 16 x).drop n).all (· == 0) = ((ar x n == 0) && ((arL 16 x).drop (n + 1)).all (· == 0)) := by
  have hl : n < (arL 16 x).length := by rw [arL_length]; exact hn
  rw [List.drop_eq_getElem_cons hl, List.all_cons]
  congr 2
  simp [arL]
theorem rright_l0 (a : S_api_Addr) : ∀ (m k n : Nat), n + m = 16 → m < k → (vineryref02_Right.l0 a k (n : Int)).bind (fun s14 => match s14 with | .inl r => some r | .inr _ => some ((true : Bool))) = some (((arL 16 a.B).drop n).all (· == 0))
  | 0, k, n, h, hk => by
    obtain ⟨k, rfl⟩ : ∃ k', k = k' + 1 := ⟨k - 1, by omega⟩
    rw [vineryref02_Right.l0, if_neg (by simp; omega), List.drop_of_length_le (by rw [arL_length]; omega)]
    rfl
  | m + 1, k, n, h, hk => by
    obtain ⟨k, rfl⟩ : ∃ k', k = k' + 1 := ⟨k - 1, by omega⟩
    have e : IntKind.i64.wrap ((n : Int) + 1) = ((n + 1 : Nat) : Int) := by rw [w64 _ (by omega)]; omega
    rw [vineryref02_Right.l0, if_pos (by simp; omega), if_pos (by omega), tail_all_step _ _ (by omega), Int.toNat_natCast, e]
    by_cases h0 : ar a.B n = 0
    · rw [if_neg (by simp [h0]), rright_l0 a m k (n + 1) (by omega) (by omega)]
      simp [h0]
    · rw [if_pos (by simp [h0])]
      simp [h0]
theorem rright_ok (k : Nat) (a : S_api_Addr) : vineryref02_Right.f (k + 20) a = some (rightB a) := by
  unfold vineryref02_Right.f
  by_cases h : a.Size = 0 ∨ a.Size = 4 ∨ a.Size = 16
  · have hc : ((if (a.Size != (0 : Int)) = true then (if (a.Size != (4 : Int)) = true then some (a.Size != (16 : Int) : Bool) else some (false : Bool)) else some (false : Bool))) = some false := by
      rcases h with h | h | h <;> simp [h]
    have hs : isSz a.Size = true := by unfold isSz; simp; omega
    rw [hc, Option.bind_some, if_neg (by simp)]
    have hn : ((a.Size.toNat : Nat) : Int) = a.Size := by omega
    have := rright_l0 a (16 - a.Size.toNat) (k + 20) a.Size.toNat (by omega) (by omega)
    rw [hn] at this
    unfold rightB
    rw [hs, Bool.true_and]
    exact this
  · have h0 : ¬ a.Size = 0 := by omega
    have h4 : ¬ a.Size = 4 := by omega
    have h16 : ¬ a.Size = 16 := by omega
    unfold rightB isSz
    simp [h0, h4, h16]
theorem ar_isB {x : List Int} (h : isB x) (i : Nat) : 0 ≤ ar x i ∧ ar x i ≤ 255 := by
  by_cases hj : i < x.length
  · rw [ar_at x i hj]; exact h _ (List.getElem_mem hj)
  · have : ar x i = 0 := by simp [ar, List.getD, List.getElem?_eq_none (Nat.not_lt.1 hj)]
    rw [this]; decide
theorem arL_arC (n : Nat) (x xs : List Int) : arL n (arC n x xs) = arC n x xs := by
  have := arL_self (arC n x xs)
  rw [arC_length] at this
  exact this
theorem arL_zeros : arL 16 zeros = zeros := by decide
theorem arC_take_succ (b : List Int) (i : Nat) (hi : i < b.length) (h16 : b.length ≤ 16) : (arL 16 (arC 16 zeros (b.take i))).set i (rd b (i : Int)) = arC 16 zeros (b.take (i + 1)) := by
  rw [arL_arC]
  apply List.ext_getElem
  · rw [List.length_set, arC_length, arC_length]
  · intro j h1 h2
    have hj : j < 16 := by rw [arC_length] at h2; exact h2
    have hl : (b.take i).length = i := by simp; omega
    have hl' : (b.take (i + 1)).length = i + 1 := by simp; omega
    rw [List.getElem_set]
    have e2 := ar_at _ j h2
    rw [ar_arC _ _ _ _ hj, hl'] at e2
    by_cases hij : i = j
    · subst hij
      rw [if_pos rfl, ← e2, if_pos (by omega), rd_at b i hi, ar_at _ _ (by omega)]
      simp
    · rw [if_neg hij]
      have h3 : j < (arC 16 zeros (b.take i)).length := by rw [arC_length]; exact hj
      have e1 := ar_at _ j h3
      rw [ar_arC _ _ _ _ hj, hl] at e1
      rw [← e1, ← e2]
      by_cases hlt : j < i
      · rw [if_pos hlt, if_pos (by omega), ar_at _ _ (by omega), ar_at _ _ (by omega)]
        simp
      · rw [if_neg hlt, if_neg (by omega)]
theorem rof_l0 (b : List Int) (h16 : b.length ≤ 16) : ∀ (m k i : Nat), i + m = b.length → m < k → vineryref02_Of.l0 b k (i : Int) (arC 16 zeros (b.take i)) = some (arC 16 zeros b)
  | 0, k, i, h, hk => by
    obtain ⟨k, rfl⟩ : ∃ k', k = k' + 1 := ⟨k - 1, by omega⟩
    rw [vineryref02_Of.l0, if_neg (by simp; omega), List.take_of_length_le (by omega)]
  | m + 1, k, i, h, hk => by
    obtain ⟨k, rfl⟩ : ∃ k', k = k' + 1 := ⟨k - 1, by omega⟩
    have e : IntKind.i64.wrap ((i : Int) + 1) = ((i + 1 : Nat) : Int) := by rw [w64 _ (by omega)]; omega
    rw [vineryref02_Of.l0, if_pos (by simp; omega), if_pos (by omega), if_pos (by omega), Int.toNat_natCast, e, arC_take_succ b i (by omega) h16, rof_l0 b h16 m k (i + 1) (by omega) (by omega)]
theorem arC_zeros_nil : arC 16 zeros [] = zeros := by decide
theorem rof_ok (k : Nat) (b : List Int) : vineryref02_Of.f (k + 20) b = some (if isSz b.length = true then (⟨b.length, arC 16 zeros b⟩, 0) else (⟨0, zeros⟩, 1)) := by
  unfold vineryref02_Of.f
  have hc : ∀ n : Int, (if (if (n != (0 : Int)) = true then (n != (4 : Int)) else false) = true then (n != (16 : Int)) else false) = !isSz n := by
    intro n
    unfold isSz
    cases h : (n == 0) <;> cases h' : (n == 4) <;> cases h'' : (n == 16) <;> simp_all
  rw [hc]
  cases h : isSz (b.length : Int)
  · rfl
  · have hl := isSz_or h
    rw [if_neg (by simp)]
    have := rof_l0 b (by omega) b.length (k + 20) 0 (by omega) (by omega)
    rw [List.take_zero, arC_zeros_nil] at this
    rw [show ((0 : Nat) : Int) = 0 from rfl] at this
    rw [show (List.replicate 16 (0 : Int)) = zeros from rfl, this, Option.bind_some]
    rfl
theorem arC_isB {b : List Int} (h : isB b) : isB (arC 16 zeros b) := by
  intro y hy
  unfold arC at hy
  rcases List.mem_append.1 hy with hy | hy
  · exact h y (List.mem_of_mem_take hy)
  · have := List.mem_of_mem_drop hy
    rw [arL_zeros] at this
    have : y = 0 := by simpa [zeros] using this
    omega
theorem raddrbytes_ok (k : Nat) (a : S_api_Addr) (h : rightB a = true) : vineryref02_Bytes.f (k + 20) a = some (rootL a) := by
  unfold vineryref02_Bytes.f
  have hs : a.Size = 0 ∨ a.Size = 4 ∨ a.Size = 16 := isSz_or (by unfold rightB at h; simp only [Bool.and_eq_true] at h; exact h.1)
  rw [rright_ok, h, Option.bind_some, if_neg (by simp), if_pos (by omega), if_pos (by simp [arL_length]; omega)]
  rfl
theorem small_ok (k : Nat) : vinerylaw02_small.f (k + 60) = some true := by kernel_rfl
theorem AddrBytes.law (a : S_api_Addr) (ha : okS_api_Addr a) (b : List Int) (hb : okL 1 (okI .u8) b) : ∃ k, vinerylaw02_AddrBytes.f k a b = some true := by
  have hbl := okL_len hb
  refine ⟨60, ?_⟩
  have la := ha.2.1
  unfold vinerylaw02_AddrBytes.f Lent.f Kept.f
  rw [small_ok 0, Option.bind_some, if_pos (by omega), Option.bind_some]
  have r1 := right_ok 40 a
  have r2 := rright_ok 40 a
  have o1 := of_ok b
  have o2 := rof_ok 40 b
  have e1 : ∃ x, addr_Bytes.f 60 a = some x ∧ vineryref02_Bytes.f 60 a = some x := by
    by_cases h : rightB a = true
    · exact ⟨_, addrbytes_ok 40 a h, raddrbytes_ok 40 a h⟩
    · have h' : rightB a = false := by simpa using h
      refine ⟨[], ?_, ?_⟩
      · unfold addr_Bytes.f; rw [r1, h']; rfl
      · unfold vineryref02_Bytes.f; rw [r2, h']; rfl
  obtain ⟨x, h1, h2⟩ := e1
  simp only [show 40 + 20 = 60 from rfl] at r1 r2 o2
  simp only [h1, h2, o1, o2, r1, r2, Option.bind_some]
  have es : ∀ z : List Int, eqA 16 z z = true := fun z => (eqA_iff _ _ _).2 fun _ _ => rfl
  cases hz : isSz b.length <;> simp [es]
end Go.E
