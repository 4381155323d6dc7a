/- The rules by which these proofs step through the code, part O. -/
import Derived.Test.YtoeenagdbjppgaaDoorEngN
import Derived.ArgAppend
set_option linter.unusedVariables false
set_option linter.unusedSimpArgs false
namespace Go.E
open Go.RowKit
/-! maps that the program makes -/
def mget {α β : Type} [BEq α] : List (α × β) → α → Option β
  | [], _ => none
  | p :: l, k => if (k == p.1) = true then some p.2 else mget l k
def mset {α β : Type} [BEq α] : List (α × β) → α → β → List (α × β)
  | [], k, v => [(k, v)]
  | p :: l, k, v => if (k == p.1) = true then (k, v) :: l else p :: mset l k v
def mdel {α β : Type} [BEq α] : List (α × β) → α → List (α × β)
  | [], _ => []
  | p :: l, k => if (k == p.1) = true then l else p :: mdel l k
/-- keys of a type of which the look-up asks nothing -/
structure MKey {α : Type} [BEq α] (P : Program) (kt : TypeId) (kv : α → Value) : Prop where
  under : ∃ d, P.underlying kt = some d ∧ ∀ a b, Instr.sameNow d (kv a) (kv b) = some (a == b)
  bits : ∀ a, Instr.sameBits 10000 (kv a) (kv a) = true
  check : ∀ (w : World) (b : Bool) (a : α), (Instr.checkKey b 10000 kt (kv a)).run P w = .ok () w
  inj : ∀ a b, (a == b) = true → kv a = kv b
def kI (k : IntKind) (n : Int) : Value := .int k n
def kS (l : List UInt8) : Value := .string (bstr l)
def kB (b : Bool) : Value := .bool b
theorem bstr_beq (a b : List UInt8) : (bstr a == bstr b) = (a == b) := by
  rw [beq_toListBytes, ByteArray.toList_eq, ByteArray.toList_eq]
  simp [bstr]
theorem mkey_int {P : Program} {kt : TypeId} {k : IntKind} (h : P.underlying kt = some (.int k)) : MKey P kt (kI k) := by
  refine ⟨⟨_, h, fun a b => by simp [kI, Instr.sameNow]⟩, fun a => by simp [kI, Instr.sameBits], fun w b a => ?_, fun a b e => by rw [eq_of_beq e]⟩
  rw [show (10000 : Nat) = 9999 + 1 from rfl, Instr.checkKey]
  simp [kI, run_underlying h]
theorem mkey_str {P : Program} {kt : TypeId} (h : P.underlying kt = some .string) : MKey P kt kS := by
  refine ⟨⟨_, h, fun a b => by simp [kS, Instr.sameNow, bstr_beq]⟩, fun a => by simp [kS, Instr.sameBits, bstr_beq], fun w b a => ?_, fun a b e => by rw [eq_of_beq e]⟩
  rw [show (10000 : Nat) = 9999 + 1 from rfl, Instr.checkKey]
  simp [kS, run_underlying h]
def pr (e : MapEntry) : Value × Value := (e.key, e.val)
def pq {α β : Type} (kv : α → Value) (vv : β → Value) (p : α × β) : Value × Value := (kv p.1, vv p.2)
/-- the stamps: each its own, all below the clock -/
def Stamps (es : List MapEntry) (clock : Nat) : Prop := (es.map (·.born)).Nodup ∧ ∀ e ∈ es, e.born < clock
def MapR {α β : Type} (kv : α → Value) (vv : β → Value) (w : World) (g : Nat) (l : List (α × β)) : Prop :=
  ∃ es clock, w.heap[g]? = some (.map es clock) ∧ es.toList.map pr = l.map (pq kv vv) ∧ Stamps es.toList clock
theorem MapR.chg {α β : Type} {kv : α → Value} {vv : β → Value} {w w' : World} {g : Nat} {l : List (α × β)} {gs : List Nat} (h : MapR kv vv w g l) (hc : Chg gs w w') (hn : g ∉ gs) : MapR kv vv w' g l := by
  obtain ⟨es, c, h1, h2, h3⟩ := h
  exact ⟨es, c, hc.at h1 hn, h2, h3⟩
theorem find_go {α β : Type} [BEq α] {P : Program} {kt : TypeId} {kv : α → Value} {vv : β → Value} (K : MKey P kt kv) {dsc : TypeDesc} (hd : ∀ a b, Instr.sameNow dsc (kv a) (kv b) = some (a == b)) (k : α) : ∀ (es : List MapEntry) (l : List (α × β)) (i : Nat), es.map pr = l.map (pq kv vv) →
    (mget l k = none ∧ Instr.findNow dsc (kv k) es i = some none ∧ (∀ v, mset l k v = l ++ [(k, v)]) ∧ mdel l k = l) ∨
    (∃ v j, mget l k = some v ∧ Instr.findNow dsc (kv k) es i = some (some (i + j, vv v)) ∧ (∃ e, es[j]? = some e ∧ e.key = kv k) ∧ (∀ v', (es.modify j fun e => { e with key := kv k, val := vv v' }).map pr = (mset l k v').map (pq kv vv)) ∧ (es.eraseIdx j).map pr = (mdel l k).map (pq kv vv))
  | [], [], i, _ => .inl ⟨rfl, rfl, fun _ => rfl, rfl⟩
  | [], _ :: _, _, h => by simp at h
  | _ :: _, [], _, h => by simp at h
  | e :: es, p :: l, i, h => by
    simp only [List.map_cons, List.cons.injEq] at h
    obtain ⟨h1, h2⟩ := h
    simp only [pr, pq, Prod.mk.injEq] at h1
    obtain ⟨hk, hv⟩ := h1
    have hs : Instr.sameNow dsc (kv k) e.key = some (k == p.1) := by rw [hk]; exact hd k p.1
    cases hb : (k == p.1) with
    | true =>
      refine .inr ⟨p.2, 0, ?_, ?_, ⟨e, rfl, by rw [hk]; exact (K.inj k p.1 hb).symm⟩, fun v' => ?_, ?_⟩
      · unfold mget; rw [hb]; rfl
      · unfold Instr.findNow; rw [hs, hb, hv]; rfl
      · unfold mset
        rw [hb]
        simp [List.modify, pr, pq, h2]
      · unfold mdel
        rw [hb]
        simpa using h2
    | false =>
      have hf : Instr.findNow dsc (kv k) (e :: es) i = Instr.findNow dsc (kv k) es (i + 1) := by
        rw [Instr.findNow, hs, hb]
      rcases find_go K hd k es l (i + 1) h2 with ⟨a1, a2, a3, a4⟩ | ⟨v, j, a1, a2, ⟨e', a3, a3'⟩, a4, a5⟩
      · refine .inl ⟨?_, by rw [hf]; exact a2, fun v => ?_, ?_⟩
        · unfold mget; rw [hb]; exact a1
        · unfold mset; rw [hb]; simp [a3]
        · unfold mdel; rw [hb]; simp [a4]
      · refine .inr ⟨v, j + 1, ?_, ?_, ⟨e', by simpa using a3, a3'⟩, fun v' => ?_, ?_⟩
        · unfold mget; rw [hb]; exact a1
        · rw [hf, a2, show i + 1 + j = i + (j + 1) by omega]
        · unfold mset
          rw [hb]
          have := a4 v'
          simp only [List.modify_succ_cons, List.map_cons]
          rw [this]
          simp [pr, pq, hk, hv]
        · unfold mdel
          rw [hb]
          simp only [List.eraseIdx_cons_succ, List.map_cons]
          rw [a5]
          simp [pr, pq, hk, hv]
section
variable {α β : Type} [BEq α] {P : Program} {kv : α → Value} {vv : β → Value} {n d : Nat} {ops : Array Oper} {Q : Exit → Act → World → Prop} {w w' : World} {a : Act} {env : Env} {rest : List Oper} {o : Oper} {v : Value}
  {dd : Option Tmp} {ty : TypeId} {pos : String} {af : Array Edge} {gd : Option (Nat × Bool)}
theorem findKey_run {kt : TypeId} (K : MKey P kt kv) {es : List MapEntry} {l : List (α × β)} (h : es.map pr = l.map (pq kv vv)) (k : α) (w : World) :
    (mget l k = none ∧ (Instr.findKey kt (kv k) es).run P w = .ok none w ∧ (∀ v, mset l k v = l ++ [(k, v)]) ∧ mdel l k = l) ∨
    (∃ v j, mget l k = some v ∧ (Instr.findKey kt (kv k) es).run P w = .ok (some (j, vv v)) w ∧ (∃ e, es[j]? = some e ∧ e.key = kv k) ∧ (∀ v', (es.modify j fun e => { e with key := kv k, val := vv v' }).map pr = (mset l k v').map (pq kv vv)) ∧ (es.eraseIdx j).map pr = (mdel l k).map (pq kv vv)) := by
  obtain ⟨dsc, hu, hd⟩ := K.under
  rcases find_go K hd k es l 0 h with ⟨a1, a2, a3, a4⟩ | ⟨v, j, a1, a2, a3, a4, a5⟩
  · exact .inl ⟨a1, by simp [Instr.findKey, run_underlying hu, a2], a3, a4⟩
  · rw [Nat.zero_add] at a2
    exact .inr ⟨v, j, a1, by simp [Instr.findKey, run_underlying hu, a2], a3, a4, a5⟩
/-- v, ok := m[k] -/
theorem mlk_run {t kt e : TypeId} {x y : Operand} {g : Nat} {l : List (α × β)} {k : α} {z : β} (ha : Has a n env) (ht : P.underlying t = some (.map kt e)) (K : MKey P kt kv) (hx : ev env x = some (.map (some g))) (hy : ev env y = some (kv k))
    (hz : ∀ w, (zeroValue e).run P w = .ok (vv z) w) (h : MapR kv vv w g l) :
    (execOp a.eval ⟨dd, .lookup t x y true, ty, pos, af, gd⟩).run P w = .ok (.value (.tuple #[vv ((mget l k).getD z), .bool (mget l k).isSome])) w := by
  obtain ⟨es, c, hb, he, _⟩ := h
  have e1 : execOp a.eval ⟨dd, .lookup t x y true, ty, pos, af, gd⟩ = (Instr.lookup t (.map (some g)) (kv k) true >>= fun v => pure (Next.value v)) := by
    simp [execOp, ha.ev hx, ha.ev hy]
  refine execOp_val' e1 ?_
  rcases findKey_run K he k w with ⟨a1, a2, _⟩ | ⟨v, j, a1, a2, _⟩
  · simp [Instr.lookup, run_underlying ht, getObj, Sem.run, hb, K.check w _ k, a1, a2, hz w]
  · simp [Instr.lookup, run_underlying ht, getObj, Sem.run, hb, K.check w _ k, a1, a2]
end
/-! an element of an array that is a value; four results -/
section
variable {P : Program} {n : Nat} {ops : Array Oper} {Q : Exit → Act → World → Prop} {a : Act} {env : List (Nat × Value)} {w : World} {dd : Option Tmp} {ty : TypeId} {pos : String} {af : Array Edge} {gd : Option (Nat × Bool)}
theorem aidx_run {t T : TypeId} {x y : Operand} {l : List Int} {k kk : IntKind} {N : Nat} {i : Int} (ha : Has a n env) (ht : P.underlying t = some (.array N T)) (hs : (P.info? T).map (·.size) = some 1) (hb : P.underlying T = some (.int kk))
    (hx : ev env x = some (.agg (cA kk N l).toArray)) (hy : ev env y = some (.int k i)) (h0 : 0 ≤ i) (h1 : i < N) (w : World) :
    (execOp a.eval ⟨dd, .index t x y, ty, pos, af, gd⟩).run P w = .ok (.value (.int kk (ar l i.toNat))) w := by
  obtain ⟨inf, hi, hs⟩ := Option.map_eq_some_iff.1 hs
  have e1 : execOp a.eval ⟨dd, .index t x y, ty, pos, af, gd⟩ = (Instr.index t (.agg (cA kk N l).toArray) (.int k i) >>= fun v => pure (Next.value v)) := by
    simp [execOp, ha.ev hx, ha.ev hy]
  refine execOp_val' e1 ?_
  have hlt : i.toNat < N := by omega
  have hg : (cA kk N l)[i.toNat]? = some (.int kk (ar l i.toNat)) := by
    simp [cA, hlt]
  simp [Instr.index, asIntOf, run_underlying ht, run_underlying hb, sizeOf, typeInfo, hi, hs, h0, h1, part, isAgg, hg]
theorem mapM_four (f : ResultVar → Sem Value) (r1 r2 r3 r4 : ResultVar) : #[r1, r2, r3, r4].mapM f = (do let v ← f r1; let u ← f r2; let x ← f r3; let y ← f r4; pure #[v, u, x, y]) := by
  rw [Array.mapM_eq_mapM_toList]; simp
theorem res4 {fn : Func} {r1 r2 r3 r4 : ResultVar} {v1 v2 v3 v4 : Value} (hr : fn.results = #[r1, r2, r3, r4]) (h1 : (resOne a.tmps r1).run P w = .ok v1 w) (h2 : (resOne a.tmps r2).run P w = .ok v2 w) (h3 : (resOne a.tmps r3).run P w = .ok v3 w) (h4 : (resOne a.tmps r4).run P w = .ok v4 w) : (results fn a.tmps).run P w = .ok (.tuple #[v1, v2, v3, v4]) w := by
  unfold results
  rw [hr, mapM_four]
  cases r1 <;> cases r2 <;> cases r3 <;> cases r4 <;> simp only [resOne] at h1 h2 h3 h4 <;> simp only [Sem.run_bind, h1, h2, h3, h4, Sem.run_pure, Result.andThen] at * <;> simp_all
theorem rt4 {fn : Func} {t u s z : Tmp} {v1 v2 v3 v4 : Value} {R : Value → World → Prop} (ha : Has a n env) (hr : fn.results = #[.tmp t, .tmp u, .tmp s, .tmp z]) (h : look env t = some v1) (h2 : look env u = some v2) (h3 : look env s = some v3) (h4 : look env z = some v4) (hR : R (.tuple #[v1, v2, v3, v4]) w) :
    bodyPost P fn (fun e w' => ∃ v, e = .returned v ∧ R v w') .ret a w := rtr ha (res4 hr (roT ha h) (roT ha h2) (roT ha h3) (roT ha h4)) hR
end
/-! all blocks but one -/
def butL (g : Nat) (w : World) : List Nat := (List.range w.heap.size).filter (fun x => x != g)
theorem butL_self {g : Nat} {w : World} : g ∉ butL g w := fun h => by simp [butL] at h
theorem butL_ok {g : Nat} {w : World} {M : List Nat} (h : ∀ x ∈ M, x ≠ g) : Ok M (butL g w) w.heap.size := fun x hx => by
  by_cases hl : x < w.heap.size
  · exact .inl (List.mem_filter.2 ⟨List.mem_range.2 hl, by simpa using h x hx⟩)
  · exact .inr (Nat.not_lt.1 hl)
theorem butL_chg {g : Nat} {w w' : World} : Ok (butL g w') (butL g w) w.heap.size := butL_ok fun x hx => by simpa using (List.mem_filter.1 hx).2
/-! numbers that are the call's own, or the marked block of a literal, full to its end -/
def OwnW (k : IntKind) (T : TypeId) (w : World) (M : List Nat) (ao : Option Addr) (cap : Nat) (xs : List Int) : Prop :=
  Own (rInt k) T w M ao cap xs ∨ (xs.length = cap ∧ ∃ g, ao = some ⟨g, 0, none⟩ ∧ g ∈ M ∧ g < w.heap.size ∧ RSl (rInt k) T w (butL g w) ao cap xs)
section
variable {P : Program} {n d : Nat} {ops : Array Oper} {Q : Exit → Act → World → Prop} {a : Act} {env : List (Nat × Value)} {rest : List Oper} {dd : Option Tmp} {ty : TypeId} {pos : String} {af : Array Edge} {gd : Option (Nat × Bool)}
variable {k : IntKind} {T : TypeId} {w w' : World} {M M' gs : List Nat} {ao : Option Addr} {cap : Nat} {xs : List Int}
theorem OwnW.own (h : Own (rInt k) T w M ao cap xs) : OwnW k T w M ao cap xs := .inl h
theorem OwnW.chg (h : OwnW k T w M ao cap xs) (hc : Chg gs w w') (ho : Ok gs M w.heap.size) (hm : Ok M' M w.heap.size) (hn : ∀ g ∈ blkL ao, g ∉ gs) (hM : ∀ g ∈ blkL ao, g ∈ M') : OwnW k T w' M' ao cap xs := by
  rcases h with h | ⟨h1, g, rfl, h2, h3, h4⟩
  · exact .inl (h.chg hc ho hm hn hM)
  · have hg : g ∈ blkL (some (⟨g, 0, none⟩ : Addr)) := by simp [blkL]
    exact .inr ⟨h1, g, rfl, hM g hg, Nat.lt_of_lt_of_le h3 hc.size, h4.chg hc (butL_ok fun x hx e => hn g hg (e ▸ hx)) butL_chg⟩
theorem OwnW.toRSl (h : OwnW k T w M ao cap xs) (hm : Ok M' M w.heap.size) (hn : ∀ g ∈ blkL ao, g ∉ M') : RSl (rInt k) T w M' ao cap xs := by
  rcases h with h | ⟨h1, g, rfl, h2, h3, h4⟩
  · exact h.toRSl hm hn
  · have hg : g ∈ blkL (some (⟨g, 0, none⟩ : Addr)) := by simp [blkL]
    exact h4.chg (Chg.refl [] w) (Ok.nil _ _) (butL_ok fun x hx e => hn g hg (e ▸ hx))
theorem OwnW.src (h : OwnW k T w M ao cap xs) : Src (rInt k) T w [] ao cap xs := (h.toRSl (M' := []) (Ok.nil _ _) (fun _ _ h => nomatch h)).src
theorem Src.told {α : Type} {r : Rep α} {ao2 : Option Addr} {cap2 : Nat} {ys : List α} (h2 : Src r T w M ao2 cap2 ys) : ∃ news, RL r w M news ys ∧ (∀ ad, ao2 = some ad → ∀ j u, news[j]? = some u → w.cell? (ad.add j) = some u) ∧ (ao2 = none → ys = []) := by
  obtain ⟨_, _, h3⟩ := h2
  rcases h3 with rfl | ⟨g, o, cur, fr, rfl, hb, hl⟩
  · exact ⟨[], rfl, fun _ _ j u hu => by simp at hu, fun _ => rfl⟩
  · refine ⟨_, hl, ?_, fun e => by cases e⟩
    intro ad had j u hu
    obtain rfl := Option.some.inj had
    rw [Addr.add_lit, cell_of_row w g _ cur fr.1 fr.2 hb]
    rw [List.getElem?_take] at hu
    split at hu
    · rw [List.getElem?_drop] at hu; rw [← Array.getElem?_toList]; exact hu
    · cases hu
theorem run_appendW {t : TypeId} {bytes : Nat} (ht : ElemT P t T 1 bytes) (ty : TypeId) {ao2 : Option Addr} {cap2 : Nat} {ys : List Int}
    (h : OwnW k T w M ao cap xs) (h2 : Src (rInt k) T w M ao2 cap2 ys) (hb : (xs.length + ys.length) * bytes ≤ 140737488355328) (h63 : xs.length + ys.length ≤ maxLen) (hy : 0 < ys.length) :
    ∃ ao' cap' w', (Builtin.append_ #[t, t] ty #[.slice ao xs.length cap, .slice ao2 ys.length cap2]).run P w = .ok (.slice ao' (xs ++ ys).length cap') w' ∧
      OwnW k T w' (blkL ao' ++ M) ao' cap' (xs ++ ys) ∧ Chg (blkL ao) w w' ∧ Ok (blkL ao') (blkL ao) w.heap.size ∧ (∀ g ∈ blkL ao', g < w'.heap.size) := by
  rcases h with h | ⟨h1, g, rfl, hgM, hgs, h4⟩
  · obtain ⟨ao', cap', w', q0, q1, q2, q3, q4⟩ := run_append (r := rInt k) ht ty h h2 hb h63
    exact ⟨ao', cap', w', q0, .inl q1, q2, q3, q4⟩
  · obtain ⟨i, z, hi, hz, hs, hby, hzs⟩ := ht.info
    obtain ⟨news, hnews, hcell, hnone⟩ := h2.told
    obtain ⟨olds, holds, hocell, _⟩ := (h4.src).told
    cases ao2 with
    | none => rw [hnone rfl] at hy; exact absurd hy (by simp)
    | some ad =>
      have hlo : olds.length = xs.length * 1 := holds.len
      have hln : news.length = ys.length * 1 := hnews.len
      obtain ⟨v', w', hrun, hown, hgr⟩ := run_append_arg_grows (P := P) w t ty T i z 1 bytes ht.under hi hz hs hby hzs ht.pos ⟨g, 0, none⟩ xs.length cap olds hlo (hocell _ rfl) ad ys.length cap2 news hln (hcell ad rfl) (by omega) h63 hb
      have hc0 : Chg [] w w' := Chg.grown hgr
      have hchg : Chg (blkL (some (⟨g, 0, none⟩ : Addr))) w w' := hc0.mono (Ok.nil _ _)
      obtain ⟨hlen, hcase⟩ := hown
      rcases hcase with ⟨rfl, hz0⟩ | ⟨g2, cap', cur, rfl, hge, hhb, hnc, hcm, hsz, htk⟩
      · omega
      · refine ⟨some ⟨g2, 0, none⟩, cap', w', by rw [List.length_append]; exact hrun, .inl (.inr ⟨g2, cur, rfl, by simp [blkL], hhb, hsz, by rw [List.length_append]; exact hnc, hcm, ?_⟩), hchg, fun x hx => ?_, fun x hx => ?_⟩
        · rw [List.length_append, show (rInt k).sz = 1 from rfl, htk, RL_int holds, RL_int hnews, ← List.map_append]
          exact RL_int_mk _
        · simp [blkL] at hx; subst hx; exact .inr hge
        · simp [blkL] at hx; subst hx; exact lt_size hhb
theorem appW {t : TypeId} {bytes : Nat} {x y : Operand} {ao2 : Option Addr} {cap2 : Nat} {ys : List Int}
    (ha : Has a n env) (ht : ElemT P t T 1 bytes) (hx : ev env x = some (.slice ao xs.length cap)) (hy : ev env y = some (.slice ao2 ys.length cap2))
    (hg : gok ops env gd = some true) (hd : dd = some d) (hdn : Nat.blt d n = true) (h : OwnW k T w M ao cap xs) (h2 : Src (rInt k) T w M ao2 cap2 ys)
    (hb : (xs.length + ys.length) * bytes ≤ 140737488355328) (hb1 : 0 < bytes) (hy0 : 0 < ys.length)
    (hk : ∀ a' w' ao' cap', OwnW k T w' (blkL ao' ++ M) ao' cap' (xs ++ ys) → Chg (blkL ao) w w' → Ok (blkL ao') (blkL ao) w.heap.size → (∀ g ∈ blkL ao', g < w'.heap.size) →
      Has a' n ((d, .slice ao' (xs ++ ys).length cap') :: env) → wpList P ops Q rest a' w') :
    wpList P ops Q (⟨dd, .call ⟨.builtin .append, #[x, y], #[t, t]⟩, ty, pos, af, gd⟩ :: rest) a w := by
  have h63 : xs.length + ys.length ≤ maxLen := by
    have : (xs.length + ys.length) * 1 ≤ (xs.length + ys.length) * bytes := Nat.mul_le_mul_left _ hb1
    simp only [maxLen]; omega
  obtain ⟨ao', cap', w', hrun, q1, q2, q3, q4⟩ := run_appendW ht ty h h2 hb h63 hy0
  have hr : (execOp a.eval ⟨dd, .call ⟨.builtin .append, #[x, y], #[t, t]⟩, ty, pos, af, gd⟩).run P w = .ok (.value (.slice ao' (xs ++ ys).length cap')) w' := by
    have e : execOp a.eval ⟨dd, .call ⟨.builtin .append, #[x, y], #[t, t]⟩, ty, pos, af, gd⟩ = (Builtin.append_ #[t, t] ty #[.slice ao xs.length cap, .slice ao2 ys.length cap2] >>= fun v => pure (Next.value v)) := by
      simp [execOp, resolve, invoke, builtin, ha.ev hx, ha.ev hy]
    exact execOp_val' e hrun
  exact hop ha hg hd hdn hr (fun a' ha' => hk a' _ _ _ q1 q2 q3 q4 ha')
end
end Go.E
