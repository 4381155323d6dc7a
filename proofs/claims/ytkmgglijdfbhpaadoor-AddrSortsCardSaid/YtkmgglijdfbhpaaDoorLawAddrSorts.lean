/- The plain law: what the walk computes is true, whatever the input. -/
import Derived.Test.YtkmgglijdfbhpaaDoorGenAddrSorts
import Derived.Test.YtkmgglijdfbhpaaDoorEngR
set_option linter.unusedVariables false
set_option linter.unusedSimpArgs false
namespace Go.E
theorem bstr_toList (l : List UInt8) : (bstr l).toList = l := by rw [ByteArray.toList_eq]; simp [bstr]
theorem cmp_range : ∀ (a b : List UInt8), Go.Lib.compareBytes a b = -1 ∨ Go.Lib.compareBytes a b = 0 ∨ Go.Lib.compareBytes a b = 1
  | [], [] => .inr (.inl rfl)
  | [], _ :: _ => .inl rfl
  | _ :: _, [] => .inr (.inr rfl)
  | x :: xs, y :: ys => by
    unfold Go.Lib.compareBytes
    split
    · exact .inl rfl
    · split
      · exact .inr (.inr rfl)
      · exact cmp_range xs ys
theorem u8_tri {x y : UInt8} (h : ¬ x < y) (h' : ¬ y < x) : x = y := UInt8.le_antisymm (UInt8.not_lt.1 h') (UInt8.not_lt.1 h)
theorem cb_cons (x y : UInt8) (xs ys : List UInt8) : Go.Lib.compareBytes (x :: xs) (y :: ys) = if x < y then -1 else if y < x then 1 else Go.Lib.compareBytes xs ys := rfl
theorem cmp_neg : ∀ (a b : List UInt8), Go.Lib.compareBytes b a = - Go.Lib.compareBytes a b
  | [], [] => rfl
  | [], _ :: _ => rfl
  | _ :: _, [] => rfl
  | x :: xs, y :: ys => by
    rw [cb_cons, cb_cons]
    by_cases h : x < y
    · rw [if_pos h, if_neg (UInt8.lt_asymm h), if_pos h]; rfl
    · rw [if_neg h, if_neg h]
      by_cases h' : y < x
      · rw [if_pos h', if_pos h']
      · rw [if_neg h', if_neg h', cmp_neg xs ys]
theorem cmp_eq0 : ∀ (a b : List UInt8), Go.Lib.compareBytes a b = 0 ↔ a = b
  | [], [] => by simp [Go.Lib.compareBytes]
  | [], _ :: _ => by simp [Go.Lib.compareBytes]
  | _ :: _, [] => by simp [Go.Lib.compareBytes]
  | x :: xs, y :: ys => by
    rw [cb_cons]
    by_cases h : x < y
    · rw [if_pos h]
      refine ⟨fun h => absurd h (by decide), fun e => ?_⟩
      injection e with e _; subst e; exact absurd h (UInt8.lt_irrefl _)
    · rw [if_neg h]
      by_cases h' : y < x
      · rw [if_pos h']
        refine ⟨fun h => absurd h (by decide), fun e => ?_⟩
        injection e with e _; subst e; exact absurd h' (UInt8.lt_irrefl _)
      · rw [if_neg h', cmp_eq0 xs ys, u8_tri h h']; simp
theorem cmp_less : ∀ (a b : List UInt8), decide (Go.Lib.compareBytes a b < 0) = Op.bytesLess a b
  | [], [] => rfl
  | [], _ :: _ => rfl
  | _ :: _, [] => rfl
  | x :: xs, y :: ys => by
    rw [cb_cons]
    unfold Op.bytesLess
    by_cases h : x < y
    · simp [h]
    · rw [if_neg h]
      by_cases h' : y < x
      · rw [if_pos h']
        have : x ≠ y := fun e => by subst e; exact UInt8.lt_irrefl _ h'
        simp [h, this]
      · rw [if_neg h', cmp_less xs ys]
        have := u8_tri h h'
        subst this
        simp [h]
theorem cb_nc (y : UInt8) (ys : List UInt8) : Go.Lib.compareBytes [] (y :: ys) = -1 := rfl
theorem cb_cn (y : UInt8) (ys : List UInt8) : Go.Lib.compareBytes (y :: ys) [] = 1 := rfl
theorem cmp_trans : ∀ (a b c : List UInt8), Go.Lib.compareBytes a b ≤ 0 → Go.Lib.compareBytes b c ≤ 0 → Go.Lib.compareBytes a c ≤ 0 ∧ (Go.Lib.compareBytes a b < 0 ∨ Go.Lib.compareBytes b c < 0 → Go.Lib.compareBytes a c < 0)
  | [], [], c => fun _ h => ⟨h, fun h => h.elim (fun h => absurd h (by decide)) id⟩
  | [], _ :: _, [] => fun _ h => by rw [cb_cn] at h; exact absurd h (by decide)
  | [], _ :: _, _ :: _ => fun _ _ => by rw [cb_nc]; exact ⟨by decide, fun _ => by decide⟩
  | _ :: _, [], _ => fun h _ => by rw [cb_cn] at h; exact absurd h (by decide)
  | _ :: _, _ :: _, [] => fun _ h => by rw [cb_cn] at h; exact absurd h (by decide)
  | x :: xs, y :: ys, z :: zs => by
    rw [cb_cons, cb_cons, cb_cons]
    by_cases h1 : x < y
    · by_cases h2 : y < z
      · rw [if_pos h1, if_pos h2, if_pos (UInt8.lt_trans h1 h2)]; exact fun _ _ => ⟨by decide, fun _ => by decide⟩
      · rw [if_pos h1, if_neg h2]
        by_cases h3 : z < y
        · rw [if_pos h3]; exact fun _ h => absurd h (by decide)
        · have := u8_tri h2 h3; subst this
          rw [if_neg h3, if_pos h1]; exact fun _ _ => ⟨by decide, fun _ => by decide⟩
    · rw [if_neg h1]
      by_cases h3 : y < x
      · rw [if_pos h3]; exact fun h => absurd h (by decide)
      · have := u8_tri h1 h3; subst this
        rw [if_neg h3]
        by_cases h2 : x < z
        · rw [if_pos h2, if_pos h2]; exact fun _ _ => ⟨by decide, fun _ => by decide⟩
        · rw [if_neg h2]
          by_cases h4 : z < x
          · rw [if_pos h4]; exact fun _ h => absurd h (by decide)
          · rw [if_neg h4, if_neg h2, if_neg h4]; exact cmp_trans xs ys zs
/-! orders -/
structure IsCmp {α : Type} (c : α → α → Int) : Prop where
  range : ∀ a b, c a b = -1 ∨ c a b = 0 ∨ c a b = 1
  neg : ∀ a b, c b a = - c a b
  trans : ∀ a b d, c a b ≤ 0 → c b d ≤ 0 → c a d ≤ 0 ∧ (c a b < 0 ∨ c b d < 0 → c a d < 0)
def icmp (a b : Int) : Int := if a < b then -1 else if a > b then 1 else 0
theorem icmp_is : IsCmp icmp := by
  refine ⟨fun a b => ?_, fun a b => ?_, fun a b d => ?_⟩
  · unfold icmp; split <;> (try split) <;> simp
  · unfold icmp; (repeat' split) <;> omega
  · unfold icmp; (repeat' split) <;> omega
theorem IsCmp.by {α β : Type} {c : β → β → Int} (h : IsCmp c) (f : α → β) : IsCmp (fun a b => c (f a) (f b)) := ⟨fun _ _ => h.range _ _, fun _ _ => h.neg _ _, fun _ _ _ => h.trans _ _ _⟩
theorem bytes_is : IsCmp Go.Lib.compareBytes := ⟨cmp_range, cmp_neg, cmp_trans⟩
def orC {α : Type} (c d : α → α → Int) (a b : α) : Int := if c a b ≠ 0 then c a b else d a b
theorem IsCmp.or {α : Type} {c d : α → α → Int} (h : IsCmp c) (k : IsCmp d) : IsCmp (orC c d) := by
  refine ⟨fun a b => ?_, fun a b => ?_, fun x y z => ?_⟩
  · unfold orC; split
    · exact h.range a b
    · exact k.range a b
  · unfold orC
    rw [h.neg a b, k.neg a b]
    split <;> split <;> omega
  · have t := h.trans x y z
    have t' := h.trans z y x
    have u := k.trans x y z
    have n1 := h.neg x y; have n2 := h.neg y z; have n3 := h.neg x z
    unfold orC
    (repeat' split) <;> omega
theorem IsCmp.refl {α : Type} {c : α → α → Int} (h : IsCmp c) (a : α) : c a a = 0 := by have := h.neg a a; omega
theorem w64 (n : Int) (h : -9223372036854775808 ≤ n ∧ n ≤ 9223372036854775807) : IntKind.i64.wrap n = n := by rw [IntKind.wrap_i64]; omega
def isB (l : List Int) : Prop := ∀ y ∈ l, 0 ≤ y ∧ y ≤ 255
theorem okL_isB {l : List Int} (h : okL 1 (okI .u8) l) : isB l := fun y hy => by
  have := h.2 y hy
  have e1 : IntKind.u8.min = 0 := rfl
  have e2 : IntKind.u8.max = 255 := rfl
  unfold okI at this
  omega
theorem okA_isB {l : List Int} {n : Nat} (h : okA .u8 n l) : isB l := fun y hy => by
  have := h.2 y hy
  have e1 : IntKind.u8.min = 0 := rfl
  have e2 : IntKind.u8.max = 255 := rfl
  unfold okI at this
  omega
theorem okL_len {l : List Int} {ok : Int → Prop} (h : okL 1 ok l) : l.length ≤ 140737488351232 := by have := h.1; unfold reachBytes at this; omega
theorem isB.app {a b : List Int} (h : isB a) (h' : isB b) : isB (a ++ b) := fun y hy => (List.mem_append.1 hy).elim (h y) (h' y)
theorem b2s_inj : ∀ {a b : List Int}, isB a → isB b → b2s a = b2s b → a = b
  | [], [], _, _, _ => rfl
  | [], _ :: _, _, _, h => by simp [b2s] at h
  | _ :: _, [], _, _, h => by simp [b2s] at h
  | x :: a, y :: b, ha, hb, h => by
    simp only [b2s, List.map_cons, List.cons.injEq] at h
    have h1 := ha x (by simp); have h2 := hb y (by simp)
    have e := congrArg UInt8.toNat h.1
    rw [UInt8.toNat_ofNat', UInt8.toNat_ofNat'] at e
    rw [b2s_inj (fun z hz => ha z (by simp [hz])) (fun z hz => hb z (by simp [hz])) h.2, show x = y by omega]
theorem b2s_beq {a b : List Int} (ha : isB a) (hb : isB b) : (b2s a == b2s b) = (a == b) := by
  rw [Bool.eq_iff_iff]
  simp only [beq_iff_eq]
  exact ⟨b2s_inj ha hb, fun e => by rw [e]⟩
theorem rd_at (l : List Int) (i : Nat) (hi : i < l.length) : rd l (i : Int) = l[i] := by simp [rd, List.getD, hi]
theorem ar_at (l : List Int) (i : Nat) (hi : i < l.length) : ar l i = l[i] := by simp [ar, List.getD, hi]
theorem arL_self (l : List Int) : arL l.length l = l := by
  apply List.ext_getElem
  · simp [arL]
  · intro i h1 h2
    simp [arL, ar_at l i h2]
theorem eqA_eq {x y : List Int} (hx : x.length = 16) (hy : y.length = 16) : eqA 16 x y = (x == y) := by
  rw [Bool.eq_iff_iff, eqA_iff]
  simp only [beq_iff_eq]
  refine ⟨fun h => ?_, fun e => by subst e; exact fun _ _ => rfl⟩
  apply List.ext_getElem
  · omega
  · intro i h1 h2
    have := h i (by omega)
    rwa [ar_at _ _ h1, ar_at _ _ h2] at this
theorem addr_eq {a b : S_api_Addr} (ha : a.B.length = 16) (hb : b.B.length = 16) : ((a.Size == b.Size) && (eqA 16 a.B b.B && true)) = decide (a = b) := by
  rw [eqA_eq ha hb, Bool.eq_iff_iff]
  obtain ⟨s, x⟩ := a
  obtain ⟨s', x'⟩ := b
  simp
theorem small_ok (k : Nat) : vinerylaw02_small.f (k + 60) = some true := by kernel_rfl
theorem icmp_f (x y : Int) : cmp_Compare_int.f x y = some (icmp x y) := by
  unfold cmp_Compare_int.f cmp_isNaN_int.f icmp
  have e : ∀ z : Int, (z != z) = false := fun z => by simp
  simp only [e, Option.bind_some, Bool.false_eq_true, if_false, decide_eq_true_eq]
  split
  · rfl
  · split <;> rfl
theorem or2_f (k : Nat) (x y : Int) : cmp_Or_int.f (k + 3) [x, y] = some (if x ≠ 0 then x else y) := by
  unfold cmp_Or_int.f
  have h0 : rd [x, y] 0 = x := rfl
  have h1 : rd [x, y] 1 = y := rfl
  have w1 : IntKind.i64.wrap (0 + 1) = 1 := by decide
  have w2 : IntKind.i64.wrap (1 + 1) = 2 := by decide
  unfold cmp_Or_int.l0
  simp only [List.length_cons, List.length_nil, h0]
  by_cases hx : x = 0
  · subst hx
    unfold cmp_Or_int.l0
    simp only [w1, h1, List.length_cons, List.length_nil]
    by_cases hy : y = 0
    · subst hy
      unfold cmp_Or_int.l0
      simp [show IntKind.i64.wrap 2 = 2 from by decide]
    · simp [hy]
  · simp [hx]
def acmp (a b : S_api_Addr) : Int := orC (fun a b : S_api_Addr => icmp a.Size b.Size) (fun a b : S_api_Addr => Go.Lib.compareBytes (b2s (arL 16 a.B)) (b2s (arL 16 b.B))) a b
theorem acmp_is : IsCmp acmp := (icmp_is.by (fun a : S_api_Addr => a.Size)).or (bytes_is.by (fun a : S_api_Addr => b2s (arL 16 a.B)))
theorem acmp_f (k : Nat) (a b : S_api_Addr) : addr_Compare.f (k + 3) a b = some (acmp a b) := by
  unfold addr_Compare.f cursor_Order.f bytes_Compare.f
  rw [icmp_f]
  simp only [Option.bind_some, or2_f]
  unfold acmp orC
  rfl
theorem icmp_0 {x y : Int} : icmp x y = 0 ↔ x = y := by unfold icmp; (repeat' split) <;> omega
theorem AddrSorts.law (a : S_api_Addr) (ha : okS_api_Addr a) (b : S_api_Addr) (hb : okS_api_Addr b) (c : S_api_Addr) (hc : okS_api_Addr c) : ∃ k, vinerylaw02_AddrSorts.f k a b c = some true := by
  refine ⟨60, ?_⟩
  have cab := acmp_f 57 a b
  have cbc := acmp_f 57 b c
  have cac := acmp_f 57 a c
  have cba := acmp_f 57 b a
  unfold vinerylaw02_AddrSorts.f
  rw [small_ok 0]
  simp only [cab, cbc, cac, cba, Option.bind_some]
  have r1 := acmp_is.range a b
  have r2 := acmp_is.range b c
  have r3 := acmp_is.range a c
  have n1 := acmp_is.neg a b
  have t := acmp_is.trans a b c
  have z : (acmp a b == 0) = ((a.Size == b.Size) && ((eqA 16 a.B b.B) && true)) := by
    have la := ha.2.1; have lb := hb.2.1
    have Ba := okA_isB ha.2; have Bb := okA_isB hb.2
    rw [addr_eq la lb, Bool.eq_iff_iff]
    simp only [beq_iff_eq, decide_eq_true_eq]
    have e : acmp a b = 0 ↔ a.Size = b.Size ∧ a.B = b.B := by
      unfold acmp orC
      have ea : arL 16 a.B = a.B := by rw [← la]; exact arL_self _
      have eb : arL 16 b.B = b.B := by rw [← lb]; exact arL_self _
      simp only [ea, eb]
      by_cases h : icmp a.Size b.Size = 0
      · rw [if_neg (by omega), cmp_eq0]
        exact ⟨fun h2 => ⟨icmp_0.1 h, b2s_inj Ba Bb h2⟩, fun h2 => by rw [h2.2]⟩
      · rw [if_pos h]
        exact ⟨fun h2 => absurd h2 h, fun h2 => absurd (icmp_0.2 h2.1) h⟩
    rw [e]
    obtain ⟨s, l⟩ := a
    obtain ⟨s', l'⟩ := b
    simp
  rw [← z, n1]
  generalize acmp a b = x at *
  generalize acmp b c = y at *
  generalize acmp a c = u at *
  have w : IntKind.i64.wrap (0 - x) = - x := by rcases r1 with rfl | rfl | rfl <;> decide
  rw [w]
  rcases r1 with rfl | rfl | rfl <;> rcases r2 with rfl | rfl | rfl <;> rcases r3 with rfl | rfl | rfl <;> first | rfl | (exfalso; revert t; decide)
end Go.E
