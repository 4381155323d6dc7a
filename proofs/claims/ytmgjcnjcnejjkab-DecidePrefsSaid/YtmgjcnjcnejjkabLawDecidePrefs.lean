/- The plain law: what the walk computes is true, whatever the input. -/
import Derived.Test.YtmgjcnjcnejjkabGenDecidePrefs
import Derived.Test.YtmgjcnjcnejjkabEngR
set_option linter.unusedVariables false
set_option linter.unusedSimpArgs false
namespace Go.E
theorem bstr_toList (l : List UInt8) : (bstr l).toList = l := by rw [ByteArray.toList_eq]; simp [bstr]
theorem cmp_range : ∀ (a b : List UInt8), Go.Lib.compareBytes a b = -1 ∨ Go.Lib.compareBytes a b = 0 ∨ Go.Lib.compareBytes a b = 1
  | [], [] => .inr (.inl rfl)
  | [], _ :: _ => .inl rfl
  | _ :: _, [] => .inr (.inr rfl)
  | x :: xs, y :: ys => by
    unfold Go.Lib.compareBytes
    split
    · exact .inl rfl
    · split
      · exact .inr (.inr rfl)
      · exact cmp_range xs ys
theorem u8_tri {x y : UInt8} (h : ¬ x < y) (h' : ¬ y < x) : x = y := UInt8.le_antisymm (UInt8.not_lt.1 h') (UInt8.not_lt.1 h)
theorem cb_cons (x y : UInt8) (xs ys : List UInt8) : Go.Lib.compareBytes (x :: xs) (y :: ys) = if x < y then -1 else if y < x then 1 else Go.Lib.compareBytes xs ys := rfl
theorem cmp_neg : ∀ (a b : List UInt8), Go.Lib.compareBytes b a = - Go.Lib.compareBytes a b
  | [], [] => rfl
  | [], _ :: _ => rfl
  | _ :: _, [] => rfl
  | x :: xs, y :: ys => by
    rw [cb_cons, cb_cons]
    by_cases h : x < y
    · rw [if_pos h, if_neg (UInt8.lt_asymm h), if_pos h]; rfl
    · rw [if_neg h, if_neg h]
      by_cases h' : y < x
      · rw [if_pos h', if_pos h']
      · rw [if_neg h', if_neg h', cmp_neg xs ys]
theorem cmp_eq0 : ∀ (a b : List UInt8), Go.Lib.compareBytes a b = 0 ↔ a = b
  | [], [] => by simp [Go.Lib.compareBytes]
  | [], _ :: _ => by simp [Go.Lib.compareBytes]
  | _ :: _, [] => by simp [Go.Lib.compareBytes]
  | x :: xs, y :: ys => by
    rw [cb_cons]
    by_cases h : x < y
    · rw [if_pos h]
      refine ⟨fun h => absurd h (by decide), fun e => ?_⟩
      injection e with e _; subst e; exact absurd h (UInt8.lt_irrefl _)
    · rw [if_neg h]
      by_cases h' : y < x
      · rw [if_pos h']
        refine ⟨fun h => absurd h (by decide), fun e => ?_⟩
        injection e with e _; subst e; exact absurd h' (UInt8.lt_irrefl _)
      · rw [if_neg h', cmp_eq0 xs ys, u8_tri h h']; simp
theorem cmp_less : ∀ (a b : List UInt8), decide (Go.Lib.compareBytes a b < 0) = Op.bytesLess a b
  | [], [] => rfl
  | [], _ :: _ => rfl
  | _ :: _, [] => rfl
  | x :: xs, y :: ys => by
    rw [cb_cons]
    unfold Op.bytesLess
    by_cases h : x < y
    · simp [h]
    · rw [if_neg h]
      by_cases h' : y < x
      · rw [if_pos h']
        have : x ≠ y := fun e => by subst e; exact UInt8.lt_irrefl _ h'
        simp [h, this]
      · rw [if_neg h', cmp_less xs ys]
        have := u8_tri h h'
        subst this
        simp [h]
theorem cb_nc (y : UInt8) (ys : List UInt8) : Go.Lib.compareBytes [] (y :: ys) = -1 := rfl
theorem cb_cn (y : UInt8) (ys : List UInt8) : Go.Lib.compareBytes (y :: ys) [] = 1 := rfl
theorem cmp_trans : ∀ (a b c : List UInt8), Go.Lib.compareBytes a b ≤ 0 → Go.Lib.compareBytes b c ≤ 0 → Go.Lib.compareBytes a c ≤ 0 ∧ (Go.Lib.compareBytes a b < 0 ∨ Go.Lib.compareBytes b c < 0 → Go.Lib.compareBytes a c < 0)
  | [], [], c => fun _ h => ⟨h, fun h => h.elim (fun h => absurd h (by decide)) id⟩
  | [], _ :: _, [] => fun _ h => by rw [cb_cn] at h; exact absurd h (by decide)
  | [], _ :: _, _ :: _ => fun _ _ => by rw [cb_nc]; exact ⟨by decide, fun _ => by decide⟩
  | _ :: _, [], _ => fun h _ => by rw [cb_cn] at h; exact absurd h (by decide)
  | _ :: _, _ :: _, [] => fun _ h => by rw [cb_cn] at h; exact absurd h (by decide)
  | x :: xs, y :: ys, z :: zs => by
    rw [cb_cons, cb_cons, cb_cons]
    by_cases h1 : x < y
    · by_cases h2 : y < z
      · rw [if_pos h1, if_pos h2, if_pos (UInt8.lt_trans h1 h2)]; exact fun _ _ => ⟨by decide, fun _ => by decide⟩
      · rw [if_pos h1, if_neg h2]
        by_cases h3 : z < y
        · rw [if_pos h3]; exact fun _ h => absurd h (by decide)
        · have := u8_tri h2 h3; subst this
          rw [if_neg h3, if_pos h1]; exact fun _ _ => ⟨by decide, fun _ => by decide⟩
    · rw [if_neg h1]
      by_cases h3 : y < x
      · rw [if_pos h3]; exact fun h => absurd h (by decide)
      · have := u8_tri h1 h3; subst this
        rw [if_neg h3]
        by_cases h2 : x < z
        · rw [if_pos h2, if_pos h2]; exact fun _ _ => ⟨by decide, fun _ => by decide⟩
        · rw [if_neg h2]
          by_cases h4 : z < x
          · rw [if_pos h4]; exact fun _ h => absurd h (by decide)
          · rw [if_neg h4, if_neg h2, if_neg h4]; exact cmp_trans xs ys zs
/-! orders -/
structure IsCmp {α : Type} (c : α → α → Int) : Prop where
  range : ∀ a b, c a b = -1 ∨ c a b = 0 ∨ c a b = 1
  neg : ∀ a b, c b a = - c a b
  trans : ∀ a b d, c a b ≤ 0 → c b d ≤ 0 → c a d ≤ 0 ∧ (c a b < 0 ∨ c b d < 0 → c a d < 0)
def icmp (a b : Int) : Int := if a < b then -1 else if a > b then 1 else 0
theorem icmp_is : IsCmp icmp := by
  refine ⟨fun a b => ?_, fun a b => ?_, fun a b d => ?_⟩
  · unfold icmp; split <;> (try split) <;> simp
  · unfold icmp; (repeat' split) <;> omega
  · unfold icmp; (repeat' split) <;> omega
theorem IsCmp.by {α β : Type} {c : β → β → Int} (h : IsCmp c) (f : α → β) : IsCmp (fun a b => c (f a) (f b)) := ⟨fun _ _ => h.range _ _, fun _ _ => h.neg _ _, fun _ _ _ => h.trans _ _ _⟩
theorem bytes_is : IsCmp Go.Lib.compareBytes := ⟨cmp_range, cmp_neg, cmp_trans⟩
def orC {α : Type} (c d : α → α → Int) (a b : α) : Int := if c a b ≠ 0 then c a b else d a b
theorem IsCmp.or {α : Type} {c d : α → α → Int} (h : IsCmp c) (k : IsCmp d) : IsCmp (orC c d) := by
  refine ⟨fun a b => ?_, fun a b => ?_, fun x y z => ?_⟩
  · unfold orC; split
    · exact h.range a b
    · exact k.range a b
  · unfold orC
    rw [h.neg a b, k.neg a b]
    split <;> split <;> omega
  · have t := h.trans x y z
    have t' := h.trans z y x
    have u := k.trans x y z
    have n1 := h.neg x y; have n2 := h.neg y z; have n3 := h.neg x z
    unfold orC
    (repeat' split) <;> omega
theorem IsCmp.refl {α : Type} {c : α → α → Int} (h : IsCmp c) (a : α) : c a a = 0 := by have := h.neg a a; omega
theorem isNaN_f (a : Int) : cmp_isNaN_int.f a = some false := by unfold cmp_isNaN_int.f; simp
theorem compare_f (a b : Int) : cmp_Compare_int.f a b = some (icmp a b) := by
  unfold cmp_Compare_int.f
  rw [isNaN_f, isNaN_f]
  unfold icmp
  simp only [Option.bind_some, Bool.false_eq_true, if_false, decide_eq_true_eq]
  split
  · rfl
  · split <;> rfl
theorem or_nz (a : List Int) (kk : Nat) (i : Nat) (hi : i < a.length) (hl : a.length ≤ 100) (h : a[i] ≠ 0) : cmp_Or_int.l0 a (kk + 1) (i : Int) = some (.inl a[i]) := by
  have e : rd a (i : Int) = a[i] := by simp [rd, List.getD, hi]
  rw [cmp_Or_int.l0, if_pos (by simpa using hi), if_pos (by omega), e, if_pos (by simpa using h)]
theorem or_z (a : List Int) (kk : Nat) (i : Nat) (hi : i < a.length) (hl : a.length ≤ 100) (h : a[i] = 0) : cmp_Or_int.l0 a (kk + 1) (i : Int) = cmp_Or_int.l0 a kk ((i + 1 : Nat) : Int) := by
  have e : rd a (i : Int) = a[i] := by simp [rd, List.getD, hi]
  have e2 : IntKind.i64.wrap ((i : Int) + 1) = ((i + 1 : Nat) : Int) := by rw [IntKind.wrap_i64]; omega
  rw [cmp_Or_int.l0, if_pos (by simpa using hi), if_pos (by omega), e, if_neg (by simpa using h), e2]
theorem or_e (a : List Int) (kk : Nat) (i : Nat) (h : i = a.length) : cmp_Or_int.l0 a (kk + 1) (i : Int) = some (.inr ()) := by
  subst h
  rw [cmp_Or_int.l0, if_neg (by simp)]
theorem or4 (k : Nat) (a b c d : Int) : cmp_Or_int.f (k + 5) [a, b, c, d] = some (if a ≠ 0 then a else if b ≠ 0 then b else if c ≠ 0 then c else d) := by
  unfold cmp_Or_int.f
  rw [show (0 : Int) = ((0 : Nat) : Int) from rfl]
  by_cases ha : a = 0
  · rw [or_z _ _ 0 (by simp) (by simp) (by simpa using ha)]
    by_cases hb : b = 0
    · rw [or_z _ _ 1 (by simp) (by simp) (by simpa using hb)]
      by_cases hc : c = 0
      · rw [or_z _ _ 2 (by simp) (by simp) (by simpa using hc)]
        by_cases hd : d = 0
        · rw [or_z _ _ 3 (by simp) (by simp) (by simpa using hd), or_e [a, b, c, d] _ _ (by simp)]
          simp [ha, hb, hc, hd]
        · rw [or_nz _ _ 3 (by simp) (by simp) (by simpa using hd)]
          simp [ha, hb, hc]
      · rw [or_nz _ _ 2 (by simp) (by simp) (by simpa using hc)]
        simp [ha, hb, hc]
    · rw [or_nz _ _ 1 (by simp) (by simp) (by simpa using hb)]
      simp [ha, hb]
  · rw [or_nz _ _ 0 (by simp) (by simp) (by simpa using ha)]
    simp [ha]
theorem or2 (k : Nat) (a b : Int) : cmp_Or_int.f (k + 3) [a, b] = some (if a ≠ 0 then a else b) := by
  unfold cmp_Or_int.f
  rw [show (0 : Int) = ((0 : Nat) : Int) from rfl]
  by_cases ha : a = 0
  · rw [or_z _ _ 0 (by simp) (by simp) (by simpa using ha)]
    by_cases hb : b = 0
    · rw [or_z _ _ 1 (by simp) (by simp) (by simpa using hb), or_e [a, b] _ _ (by simp)]
      simp [ha, hb]
    · rw [or_nz _ _ 1 (by simp) (by simp) (by simpa using hb)]
      simp [ha]
  · rw [or_nz _ _ 0 (by simp) (by simp) (by simpa using ha)]
    simp [ha]
def acmp : S_api_Addr → S_api_Addr → Int := orC (fun a b => icmp a.Size b.Size) (fun a b => Go.Lib.compareBytes (b2s (arL 16 a.B)) (b2s (arL 16 b.B)))
theorem acmp_is : IsCmp acmp := (icmp_is.by (fun a : S_api_Addr => a.Size)).or (bytes_is.by (fun a : S_api_Addr => b2s (arL 16 a.B)))
theorem acmp_f (k : Nat) (a b : S_api_Addr) : addr_Compare.f (k + 3) a b = some (acmp a b) := by
  unfold addr_Compare.f cursor_Order.f bytes_Compare.f
  rw [compare_f]
  simp only [Option.bind_some]
  rw [or2]
  rfl
/-- a path's length, as the machine counts it -/
def lenW : List S_api_Segment → Int → Int
  | [], x => x
  | s :: l, x => lenW l (if s.Set = true then IntKind.i64.wrap (x + 1) else IntKind.i64.wrap (x + (s.AS.length : Int)))
theorem length_l0 (a : List S_api_Segment) (hl : a.length ≤ 140737488355328) : ∀ (m kk i : Nat) (x : Int), m + i = a.length → m < kk → decide_Length.l0 a kk x (i : Int) = some (lenW (a.drop i) x)
  | 0, kk + 1, i, x, h, _ => by
    rw [decide_Length.l0, if_neg (by simp; omega), List.drop_of_length_le (by omega)]
    rfl
  | m + 1, kk + 1, i, x, h, hk => by
    have hi : i < a.length := by omega
    have e : IntKind.i64.wrap ((i : Int) + 1) = ((i + 1 : Nat) : Int) := by rw [IntKind.wrap_i64]; omega
    have er : rd a (i : Int) = a[i] := by simp [rd, List.getD, hi]
    rw [decide_Length.l0, if_pos (by simpa using hi), if_pos (by omega), e, er, length_l0 a hl m kk (i + 1) _ (by omega) (by omega), length_l0 a hl m kk (i + 1) _ (by omega) (by omega), List.drop_eq_getElem_cons hi, lenW]
    split <;> rfl
theorem length_f (k : Nat) (a : List S_api_Segment) (hl : a.length ≤ 140737488355328) (hk : a.length < k) : decide_Length.f k a = some (lenW a 0) := by
  unfold decide_Length.f
  have := length_l0 a hl a.length k 0 0 (by omega) hk
  rw [show ((0 : Nat) : Int) = (0 : Int) from rfl, List.drop_zero] at this
  rw [this]
  rfl
def orI (n o : Int) : Int := if n == -1 then o else n
theorem or_f (n o : Int) : decide_or.f n o = some (orI n o) := by
  unfold decide_or.f orI
  split <;> rfl
def hereI (c : S_api_Choice) : Int := if c.Peer == 0 then 0 else 1
theorem here_f (c : S_api_Choice) : decide_here.f c = some (hereI c) := by
  unfold decide_here.f hereI
  split <;> rfl
def tellI (c : S_api_Choice) : S_api_Addr := if c.Route.Attrs.Originator.Size != 0 then c.Route.Attrs.Originator else c.Id
theorem tell_f (c : S_api_Choice) : decide_teller.f c = some (tellI c) := by
  unfold decide_teller.f tellI
  split <;> rfl
def kPref (c : S_api_Choice) : Int := - orI c.Route.Attrs.Pref 100
def ccmp : S_api_Choice → S_api_Choice → Int :=
  orC (fun a b => icmp (orI b.Route.Attrs.Pref 100) (orI a.Route.Attrs.Pref 100)) (orC (fun a b => icmp (lenW a.Route.Attrs.Path 0) (lenW b.Route.Attrs.Path 0)) (orC (fun a b => icmp a.Route.Attrs.Origin b.Route.Attrs.Origin)
    (orC (fun a b => icmp (orI a.Route.Attrs.Med 0) (orI b.Route.Attrs.Med 0)) (orC (fun a b => icmp (hereI a) (hereI b)) (orC (fun a b => acmp (tellI a) (tellI b)) (orC (fun a b => icmp (a.Route.Attrs.Clusters.length : Int) (b.Route.Attrs.Clusters.length : Int)) (fun a b => icmp a.Peer b.Peer)))))))
theorem IsCmp.flip {α : Type} {c : α → α → Int} (h : IsCmp c) : IsCmp (fun a b => c b a) := by
  refine ⟨fun a b => h.range b a, fun a b => h.neg b a, fun a b d h1 h2 => ?_⟩
  have := h.trans d b a h2 h1
  exact ⟨this.1, fun h => this.2 h.symm⟩
theorem ccmp_is : IsCmp ccmp :=
  ((icmp_is.by fun a : S_api_Choice => orI a.Route.Attrs.Pref 100).flip).or ((icmp_is.by fun a : S_api_Choice => lenW a.Route.Attrs.Path 0).or ((icmp_is.by fun a : S_api_Choice => a.Route.Attrs.Origin).or ((icmp_is.by fun a : S_api_Choice => orI a.Route.Attrs.Med 0).or
    ((icmp_is.by hereI).or ((acmp_is.by tellI).or ((icmp_is.by fun a : S_api_Choice => (a.Route.Attrs.Clusters.length : Int)).or (icmp_is.by fun a : S_api_Choice => a.Peer)))))))
theorem pick8 (x1 x2 x3 x4 x5 x6 x7 x8 : Int) : (if ((if x1 ≠ 0 then x1 else if x2 ≠ 0 then x2 else if x3 ≠ 0 then x3 else x4) != 0) = true then some (if x1 ≠ 0 then x1 else if x2 ≠ 0 then x2 else if x3 ≠ 0 then x3 else x4)
      else some (if x5 ≠ 0 then x5 else if x6 ≠ 0 then x6 else if x7 ≠ 0 then x7 else x8)) =
    some (if x1 ≠ 0 then x1 else if x2 ≠ 0 then x2 else if x3 ≠ 0 then x3 else if x4 ≠ 0 then x4 else if x5 ≠ 0 then x5 else if x6 ≠ 0 then x6 else if x7 ≠ 0 then x7 else x8) := by
  by_cases e1 : x1 = 0 <;> by_cases e2 : x2 = 0 <;> by_cases e3 : x3 = 0 <;> by_cases e4 : x4 = 0 <;> simp [e1, e2, e3, e4]
theorem ccmp_f (k : Nat) (a b : S_api_Choice) (ha : a.Route.Attrs.Path.length ≤ 140737488355328) (hb : b.Route.Attrs.Path.length ≤ 140737488355328) (h1 : a.Route.Attrs.Path.length < k + 5) (h2 : b.Route.Attrs.Path.length < k + 5) :
    decide_Compare.f (k + 5) a b = some (ccmp a b) := by
  unfold decide_Compare.f
  simp only [Option.bind_some, or_f, compare_f, length_f _ _ ha h1, length_f _ _ hb h2, here_f, tell_f]
  rw [or4]
  simp only [Option.bind_some]
  rw [show k + 5 = (k + 2) + 3 from rfl, acmp_f, show k + 2 + 3 = k + 5 from rfl]
  simp only [Option.bind_some]
  rw [or4]
  exact pick8 _ _ _ _ _ _ _ _
/-! few -/
theorem few_l1 (a : S_api_Attrs) (hl : a.Tunnels.length ≤ 140737488355328) : ∀ (m kk i : Nat), m + i = a.Tunnels.length → m < kk → ∃ r, vinerylaw09_Few.l1 a kk (i : Int) = some r
  | 0, kk + 1, i, h, _ => by rw [vinerylaw09_Few.l1, if_neg (by simp; omega)]; exact ⟨_, rfl⟩
  | m + 1, kk + 1, i, h, hk => by
    have e : IntKind.i64.wrap ((i : Int) + 1) = ((i + 1 : Nat) : Int) := by rw [IntKind.wrap_i64]; omega
    rw [vinerylaw09_Few.l1, if_pos (by simp; omega), if_pos (by omega), e]
    split
    · exact ⟨_, rfl⟩
    · exact few_l1 a hl m kk (i + 1) (by omega) (by omega)
theorem few_l0 (a : S_api_Attrs) (hl : a.Path.length ≤ 140737488355328) : ∀ (m kk i : Nat), m + i = a.Path.length → m < kk → ∃ r, vinerylaw09_Few.l0 a kk (i : Int) = some r
  | 0, kk + 1, i, h, _ => by rw [vinerylaw09_Few.l0, if_neg (by simp; omega)]; exact ⟨_, rfl⟩
  | m + 1, kk + 1, i, h, hk => by
    have e : IntKind.i64.wrap ((i : Int) + 1) = ((i + 1 : Nat) : Int) := by rw [IntKind.wrap_i64]; omega
    rw [vinerylaw09_Few.l0, if_pos (by simp; omega), if_pos (by omega), e]
    split
    · exact ⟨_, rfl⟩
    · exact few_l0 a hl m kk (i + 1) (by omega) (by omega)
theorem Few_f (k : Nat) (a : S_api_Attrs) (h1 : a.Path.length ≤ 140737488355328) (h2 : a.Tunnels.length ≤ 140737488355328) (k1 : a.Path.length < k) (k2 : a.Tunnels.length < k) : ∃ r, vinerylaw09_Few.f k a = some r := by
  unfold vinerylaw09_Few.f
  obtain ⟨r, hr⟩ := few_l0 a h1 a.Path.length k 0 (by omega) k1
  obtain ⟨q, hq⟩ := few_l1 a h2 a.Tunnels.length k 0 (by omega) k2
  rw [show ((0 : Nat) : Int) = (0 : Int) from rfl] at hr hq
  rw [hr, Option.bind_some]
  cases r with
  | inl r => exact ⟨_, rfl⟩
  | inr r =>
    simp only [hq, Option.bind_some]
    cases q with
    | inl q => exact ⟨_, rfl⟩
    | inr q =>
      simp only
      (repeat' split) <;> exact ⟨_, rfl⟩
def fits (k : Nat) (c : S_api_Choice) : Prop := c.Route.Attrs.Path.length ≤ 140737488355328 ∧ c.Route.Attrs.Tunnels.length ≤ 140737488355328 ∧ c.Route.Attrs.Path.length < k ∧ c.Route.Attrs.Tunnels.length < k
theorem fewl0 (k : Nat) (l : List S_api_Choice) (hl : l.length ≤ 140737488355328) (hf : ∀ c ∈ l, fits k c) : ∀ (m kk i : Nat), m + i = l.length → m < kk → ∃ r, vinerylaw16_few.l0 k l kk (i : Int) = some r
  | 0, kk + 1, i, h, _ => by rw [vinerylaw16_few.l0, if_neg (by simp; omega)]; exact ⟨_, rfl⟩
  | m + 1, kk + 1, i, h, hk => by
    have hi : i < l.length := by omega
    have e : IntKind.i64.wrap ((i : Int) + 1) = ((i + 1 : Nat) : Int) := by rw [IntKind.wrap_i64]; omega
    have er : rd l (i : Int) = l[i] := by simp [rd, List.getD, hi]
    obtain ⟨f1, f2, f3, f4⟩ := hf l[i] (List.getElem_mem hi)
    obtain ⟨b, hb⟩ := Few_f k l[i].Route.Attrs f1 f2 f3 f4
    rw [vinerylaw16_few.l0, if_pos (by simp; omega), if_pos (by omega), e, er, hb, Option.bind_some]
    split
    · exact ⟨_, rfl⟩
    · exact fewl0 k l hl hf m kk (i + 1) (by omega) (by omega)
theorem few_f (k : Nat) (l : List S_api_Choice) (hl : l.length ≤ 140737488355328) (hf : ∀ c ∈ l, fits k c) (hk : l.length < k) : ∃ r, vinerylaw16_few.f k l = some r := by
  unfold vinerylaw16_few.f
  obtain ⟨r, hr⟩ := fewl0 k l hl hf l.length k 0 (by omega) hk
  rw [show ((0 : Nat) : Int) = (0 : Int) from rfl] at hr
  rw [hr, Option.bind_some]
  cases r <;> exact ⟨_, rfl⟩
theorem small_true : ∀ k, vinerylaw16_small.f (k + 12) = some true := fun k => by kernel_rfl
/-- the better one of two -/
theorem best_two (k : Nat) (a b : S_api_Choice) (x : Int) (h : decide_Compare.f (k + 12) b a = some x) (hx : x < 0) : decide_Best.f (k + 12) [a, b] = some 1 := by
  have b0 : ∀ kk, decide_Best.l0 (k + 12) [a, b] (kk + 1) (-1) 0 = decide_Best.l0 (k + 12) [a, b] kk 0 1 := fun kk => by kernel_rfl
  have b1 : ∀ kk, decide_Best.l0 (k + 12) [a, b] (kk + 1) 0 1 = ((decide_Compare.f (k + 12) b a).bind fun t => some (decide (t < (0 : Int)) : Bool)).bind fun s => if s = true then decide_Best.l0 (k + 12) [a, b] kk 1 2 else decide_Best.l0 (k + 12) [a, b] kk 0 2 := fun kk => by kernel_rfl
  have b2 : ∀ kk, decide_Best.l0 (k + 12) [a, b] (kk + 1) 1 2 = some 1 := fun kk => by kernel_rfl
  have hd : decide (x < 0) = true := by simpa using hx
  unfold decide_Best.f
  rw [show k + 12 = (k + 9) + 1 + 1 + 1 from rfl] at *
  rw [b0, b1, h]
  simp only [Option.bind_some, hd, if_true]
  rw [b2]
  rfl
theorem ccmp_first (a b : S_api_Choice) (h : icmp (orI b.Route.Attrs.Pref 100) (orI a.Route.Attrs.Pref 100) ≠ 0) : ccmp a b = icmp (orI b.Route.Attrs.Pref 100) (orI a.Route.Attrs.Pref 100) := by
  unfold ccmp orC
  rw [if_pos h]
theorem icmp_self (a : Int) : icmp a a = 0 := by unfold icmp; simp
theorem ccmp_fifth (a b : S_api_Choice) (h1 : a.Route.Attrs.Pref = b.Route.Attrs.Pref) (h2 : a.Route.Attrs.Path = b.Route.Attrs.Path) (h3 : a.Route.Attrs.Origin = b.Route.Attrs.Origin) (h4 : a.Route.Attrs.Med = b.Route.Attrs.Med)
    (h5 : icmp (hereI a) (hereI b) ≠ 0) : ccmp a b = icmp (hereI a) (hereI b) := by
  have e1 : icmp (orI b.Route.Attrs.Pref 100) (orI a.Route.Attrs.Pref 100) = 0 := by rw [h1]; exact icmp_self _
  have e2 : icmp (lenW a.Route.Attrs.Path 0) (lenW b.Route.Attrs.Path 0) = 0 := by rw [h2]; exact icmp_self _
  have e3 : icmp a.Route.Attrs.Origin b.Route.Attrs.Origin = 0 := by rw [h3]; exact icmp_self _
  have e4 : icmp (orI a.Route.Attrs.Med 0) (orI b.Route.Attrs.Med 0) = 0 := by rw [h4]; exact icmp_self _
  unfold ccmp
  simp only [orC, e1, e2, e3, e4, ne_eq, not_true_eq_false, if_false]
  rw [if_pos h5]
theorem DecidePrefs.law (a : S_api_Choice) (ha : okS_api_Choice a) (b : S_api_Choice) (hb : okS_api_Choice b) (p : Int) (hp : okI .i64 p) : ∃ k, vinerylaw16_DecidePrefs.f k a b p = some true := by
  have len : ∀ (x : S_api_Choice), okS_api_Choice x → x.Route.Attrs.Path.length ≤ 140737488355328 ∧ x.Route.Attrs.Tunnels.length ≤ 140737488355328 := fun x hx => by
    obtain ⟨⟨_, _, _, _, _, _, hp, _, _, _, _, _, ht⟩, _⟩ := hx
    have h1 := hp.1
    have h2 := ht.1
    unfold reachBytes at h1 h2
    exact ⟨by omega, by omega⟩
  have la := len a ha; have lb := len b hb
  obtain ⟨K, hK⟩ : ∃ K, K = a.Route.Attrs.Path.length + a.Route.Attrs.Tunnels.length + b.Route.Attrs.Path.length + b.Route.Attrs.Tunnels.length := ⟨_, rfl⟩
  refine ⟨K + 12, ?_⟩
  unfold vinerylaw16_DecidePrefs.f
  rw [small_true, Option.bind_some]
  obtain ⟨r, hr⟩ := few_f (K + 12) [a, b] (by simp) (fun x hx => by
    simp only [List.mem_cons, List.not_mem_nil, or_false] at hx
    rcases hx with rfl | rfl
    · exact ⟨la.1, la.2, by omega, by omega⟩
    · exact ⟨lb.1, lb.2, by omega, by omega⟩) (by simp)
  rw [hr, Option.bind_some]
  by_cases hg : (if (if (!r) = true then true else decide (p < (0 : Int))) = true then true else decide (p > (4294967294 : Int))) = true
  · rw [if_pos hg]
  · rw [if_neg hg]
    have hp0 : 0 ≤ p ∧ p ≤ 4294967294 := by
      cases r <;> simp at hg
      omega
    have ew : IntKind.i64.wrap (p + 1) = p + 1 := by rw [IntKind.wrap_i64]; omega
    have o1 : orI p 100 = p := by unfold orI; rw [if_neg (by simp; omega)]
    have o2 : orI (p + 1) 100 = p + 1 := by unfold orI; rw [if_neg (by simp; omega)]
    rw [ew]
    have c1 : ∀ (x y : S_api_Choice), x.Route.Attrs.Path.length ≤ 140737488355328 → y.Route.Attrs.Path.length ≤ 140737488355328 → x.Route.Attrs.Path.length < K + 12 → y.Route.Attrs.Path.length < K + 12 → decide_Compare.f (K + 12) x y = some (ccmp x y) :=
      fun x y hx hy h1 h2 => ccmp_f (K + 7) x y hx hy h1 h2
    have pa : a.Route.Attrs.Path.length < K + 12 := by omega
    have pb : b.Route.Attrs.Path.length < K + 12 := by omega
    rw [c1]
    rotate_left
    · exact la.1
    · exact lb.1
    · exact pa
    · exact pb
    simp only [Option.bind_some, if_true]
    have big : icmp (p + 1) p = 1 := by unfold icmp; rw [if_neg (by omega), if_pos (by omega)]
    have low : icmp p (p + 1) = -1 := by unfold icmp; rw [if_pos (by omega)]
    rw [ccmp_first _ _ (by simp only [o1, o2, big]; decide)]
    simp only [o1, o2, big, BEq.rfl, if_true]
    rw [best_two K _ _ _ (c1 _ _ ?_ ?_ ?_ ?_) ?_]
    rotate_left
    · exact lb.1
    · exact la.1
    · exact pb
    · exact pa
    · rw [ccmp_first _ _ (by simp only [o1, o2, low]; decide)]; simp only [o1, o2, low]; decide
    simp only [Option.bind_some, BEq.rfl, if_true]
    rw [c1]
    rotate_left
    · exact la.1
    · exact la.1
    · exact pa
    · exact pa
    rw [ccmp_fifth _ _ ?_ ?_ ?_ ?_ ?_]
    rotate_left
    · rfl
    · rfl
    · rfl
    · rfl
    · show icmp 0 1 ≠ 0; decide
    simp only [hereI]
    rfl
end Go.E
