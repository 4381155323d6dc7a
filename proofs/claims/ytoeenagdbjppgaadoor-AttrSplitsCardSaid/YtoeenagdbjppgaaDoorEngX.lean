/- The rules by which these proofs step through the code, part X. -/
import Derived.Test.YtoeenagdbjppgaaDoorEngQ
set_option linter.unusedVariables false
set_option linter.unusedSimpArgs false
namespace Go.E
open Go.RowKit
/-! maps: made, written, measured, emptied -/
theorem New.mapR {α β : Type} {kv : α → Value} {vv : β → Value} {w w' : World} {g : Nat} (h : New w w' g (.map #[] 0)) : MapR kv vv w' g [] := ⟨#[], 0, h.at_, rfl, List.nodup_nil, fun _ h => nomatch h⟩
theorem Stamps.push {es : List MapEntry} {c : Nat} (h : Stamps es c) (k v : Value) : Stamps (es ++ [{ key := k, val := v, born := c }]) (c + 1) := by
  refine ⟨?_, fun e he => ?_⟩
  · rw [List.map_append, List.nodup_append]
    refine ⟨h.1, by simp, fun a ha b hb e => ?_⟩
    obtain ⟨x, hx, rfl⟩ := List.mem_map.1 ha
    have := h.2 x hx
    simp at hb
    omega
  · rcases List.mem_append.1 he with he | he
    · exact Nat.lt_succ_of_lt (h.2 e he)
    · rw [List.mem_singleton.1 he]; exact Nat.lt_succ_self _
theorem modify_born (f : MapEntry → MapEntry) (hf : ∀ e, (f e).born = e.born) : ∀ (es : List MapEntry) (i : Nat), (es.modify i f).map (·.born) = es.map (·.born)
  | [], i => by rw [List.modify_nil]
  | e :: es, 0 => by simp [hf]
  | e :: es, i + 1 => by simp [modify_born f hf es i]
theorem Stamps.modify {es : List MapEntry} {c : Nat} (h : Stamps es c) (f : MapEntry → MapEntry) (hf : ∀ e, (f e).born = e.born) (i : Nat) : Stamps (es.modify i f) c := by
  have e1 := modify_born f hf es i
  refine ⟨by rw [e1]; exact h.1, fun e he => ?_⟩
  have : e.born ∈ (es.modify i f).map (·.born) := List.mem_map.2 ⟨e, he, rfl⟩
  rw [e1] at this
  obtain ⟨x, hx, ex⟩ := List.mem_map.1 this
  rw [← ex]; exact h.2 x hx
theorem Stamps.erase {es : List MapEntry} {c : Nat} (h : Stamps es c) (i : Nat) : Stamps (es.eraseIdx i) c :=
  ⟨h.1.sublist ((List.eraseIdx_sublist es i).map _), fun e he => h.2 e ((List.eraseIdx_sublist es i).subset he)⟩
section
variable {α β : Type} [BEq α] {P : Program} {kv : α → Value} {vv : β → Value} {n d : Nat} {ops : Array Oper} {Q : Exit → Act → World → Prop} {w w' : World} {a : Act} {env : Env} {rest : List Oper} {o : Oper} {v : Value}
  {dd : Option Tmp} {ty : TypeId} {pos : String} {af : Array Edge} {gd : Option (Nat × Bool)}
def setMap (w : World) (g : Nat) (es : Array MapEntry) (c : Nat) : World := { w with heap := w.heap.setIfInBounds g (.map es c) }
theorem setMap_at {g : Nat} {es : Array MapEntry} {c : Nat} (h : g < w.heap.size) : (setMap w g es c).heap[g]? = some (.map es c) := by
  simp [setMap, Array.getElem?_setIfInBounds, h]
theorem setMap_chg (g : Nat) (es : Array MapEntry) (c : Nat) : Chg [g] w (setMap w g es c) :=
  ⟨rfl, rfl, rfl, by simp [setMap], fun k hk hn => by
    simp only [setMap, Array.getElem?_setIfInBounds]
    rw [if_neg (fun e => hn (by simp [e]))]⟩
theorem find_toList (p : MapEntry → Bool) (es : Array MapEntry) : es.findIdx? p = es.toList.findIdx? p := by
  cases es
  exact List.findIdx?_toArray p _
/-- map[K]V{} -/
theorem mmk {t : TypeId} (ha : Has a n env) (hg : gok ops env gd = some true) (hd : dd = some d) (hdn : Nat.blt d n = true)
    (hk : ∀ a' w' g, New w w' g (.map #[] 0) → Has a' n ((d, .map (some g)) :: env) → wpList P ops Q rest a' w') : wpList P ops Q (⟨dd, .makeMap t none, ty, pos, af, gd⟩ :: rest) a w := by
  refine hop (o := ⟨dd, .makeMap t none, ty, pos, af, gd⟩) (w' := w.alloc (.map #[] 0)) (v := .map (some w.heap.size)) ha hg hd hdn ?_ ?_
  · simp [execOp, Instr.makeMap, newObj, Sem.run]
  · intro a' ha'
    exact hk a' _ _ (New.alloc w _) ha'
/-- m[k] = v -/
theorem mup_run {t kt e : TypeId} {g : Nat} {l : List (α × β)} {k : α} {x : β} (ht : P.underlying t = some (.map kt e)) (K : MKey P kt kv) (h : MapR kv vv w g l) :
    ∃ w', (Instr.mapUpdate t (.map (some g)) (kv k) (vv x)).run P w = .ok () w' ∧ MapR kv vv w' g (mset l k x) ∧ Chg [g] w w' ∧ w'.heap.size = w.heap.size := by
  obtain ⟨es, c, hb, he, hst⟩ := h
  have hlt := lt_size hb
  rcases findKey_run K he k w with ⟨a1, a2, a3, _⟩ | ⟨y, j, a1, a2, ⟨ent, a3, a3'⟩, a4, _⟩
  · refine ⟨setMap w g (es.push { key := kv k, val := vv x, born := c }) (c + 1), ?_, ⟨_, _, setMap_at hlt, ?_, by rw [Array.toList_push]; exact hst.push _ _⟩, setMap_chg _ _ _, by simp [setMap]⟩
    · simp [Instr.mapUpdate, run_underlying ht, getObj, Sem.run, hb, K.check w _ k, a2, setObj, setMap]
    · rw [a3]; simp [pr, pq, he]
  · refine ⟨setMap w g (es.modify j fun e => { e with key := kv k, val := vv x }) c, ?_, ⟨_, _, setMap_at hlt, ?_, by rw [Array.toList_modify]; exact hst.modify (fun e => { e with key := kv k, val := vv x }) (fun _ => rfl) _⟩, setMap_chg _ _ _, by simp [setMap]⟩
    · have hj : ((es[j]?).map (·.key)).getD (kv k) = kv k := by
        have : es[j]? = some ent := by simpa using a3
        rw [this]; simp [a3']
      simp [Instr.mapUpdate, run_underlying ht, getObj, Sem.run, hb, K.check w _ k, a2, hj, Instr.keyThatStays, K.bits, setObj, setMap]
    · rw [Array.toList_modify]; exact a4 x
theorem mup {t kt e : TypeId} {x y z : Operand} {g : Nat} {l : List (α × β)} {k : α} {u : β} (ha : Has a n env) (ht : P.underlying t = some (.map kt e)) (K : MKey P kt kv) (hx : ev env x = some (.map (some g))) (hy : ev env y = some (kv k)) (hz : ev env z = some (vv u))
    (hg : gok ops env gd = some true) (h : MapR kv vv w g l)
    (hk : ∀ a' w', Has a' n env → MapR kv vv w' g (mset l k u) → Chg [g] w w' → wpList P ops Q rest a' w') : wpList P ops Q (⟨none, .mapUpdate t x y z, ty, pos, af, gd⟩ :: rest) a w := by
  obtain ⟨w', h1, h2, h3, _⟩ := mup_run (x := u) (k := k) ht K h
  refine hops (o := ⟨none, .mapUpdate t x y z, ty, pos, af, gd⟩) (w' := w') ha hg rfl ?_ fun a' ha' => hk a' w' ha' h2 h3
  simp [execOp, ha.ev hx, ha.ev hy, ha.ev hz, h1]
/-- delete(m, k) -/
theorem mdl {t t2 kt e : TypeId} {x y : Operand} {g : Nat} {l : List (α × β)} {k : α} (ha : Has a n env) (ht : P.underlying t = some (.map kt e)) (K : MKey P kt kv) (hx : ev env x = some (.map (some g))) (hy : ev env y = some (kv k))
    (hg : gok ops env gd = some true) (h : MapR kv vv w g l)
    (hk : ∀ a' w', Has a' n env → MapR kv vv w' g (mdel l k) → Chg [g] w w' → wpList P ops Q rest a' w') : wpList P ops Q (⟨none, .call ⟨.builtin .delete, #[x, y], #[t, t2]⟩, ty, pos, af, gd⟩ :: rest) a w := by
  obtain ⟨es, c, hb, he, hst⟩ := h
  have hlt := lt_size hb
  rcases findKey_run K he k w with ⟨a1, a2, _, a4⟩ | ⟨y', j, a1, a2, ⟨ent, a3, _⟩, _, a5⟩
  · refine hopn (o := ⟨none, .call ⟨.builtin .delete, #[x, y], #[t, t2]⟩, ty, pos, af, gd⟩) (w' := setMap w g es c) (v := .tuple #[]) ha hg rfl ?_ fun a' ha' => hk a' _ ha' ⟨es, c, setMap_at hlt, by rw [a4]; exact he, hst⟩ (setMap_chg _ _ _)
    simp [execOp, ha.ev hx, ha.ev hy, builtin, Builtin.delete_, run_underlying ht, getObj, Sem.run, hb, K.check w _ k, a2, setObj, setMap, resolve, Deferred.ofValue, invoke]
  · have hj : j < es.toList.length := (List.getElem?_eq_some_iff.1 a3).1
    refine hopn (o := ⟨none, .call ⟨.builtin .delete, #[x, y], #[t, t2]⟩, ty, pos, af, gd⟩) (w' := setMap w g (es.eraseIdxIfInBounds j) c) (v := .tuple #[]) ha hg rfl ?_ fun a' ha' => hk a' _ ha' ⟨es.eraseIdxIfInBounds j, c, setMap_at hlt, ?_, ?_⟩ (setMap_chg _ _ _)
    · simp [execOp, ha.ev hx, ha.ev hy, builtin, Builtin.delete_, run_underlying ht, getObj, Sem.run, hb, K.check w _ k, a2, setObj, setMap, resolve, Deferred.ofValue, invoke]
    · have hj' : j < es.size := by simpa using hj
      rw [Array.eraseIdxIfInBounds, dif_pos hj', Array.toList_eraseIdx]; exact a5
    · have hj' : j < es.size := by simpa using hj
      rw [Array.eraseIdxIfInBounds, dif_pos hj', Array.toList_eraseIdx]; exact hst.erase _
/-- between an entry and its store: the entry of a stamp is k's -/
def MapE (kv : α → Value) (vv : β → Value) (w : World) (g : Nat) (l : List (α × β)) (k : α) (st : Int) : Prop :=
  ∃ es clock i, w.heap[g]? = some (.map es clock) ∧ es.findIdx? (fun e => (e.born : Int) == st) = some i ∧ (∀ v, (es.toList.modify i fun e => { e with val := vv v }).map pr = (mset l k v).map (pq kv vv)) ∧ Stamps es.toList clock
theorem MapE.chg {gs : List Nat} {g : Nat} {l : List (α × β)} {k : α} {st : Int} (h : MapE kv vv w g l k st) (hc : Chg gs w w') (hn : g ∉ gs) : MapE kv vv w' g l k st := by
  obtain ⟨es, c, i, h1, h2⟩ := h
  exact ⟨es, c, i, hc.at h1 hn, h2⟩
theorem born_at : ∀ (es : List MapEntry) (j : Nat) (e : MapEntry), (es.map (·.born)).Nodup → es[j]? = some e → es.findIdx? (fun x => (x.born : Int) == (e.born : Int)) = some j
  | [], _, _, _, h => by simp at h
  | x :: es, 0, e, _, h => by
    obtain rfl : x = e := by simpa using h
    simp [List.findIdx?_cons]
  | x :: es, j + 1, e, hn, h => by
    simp only [List.map_cons, List.nodup_cons] at hn
    have hj : es[j]? = some e := by simpa using h
    have hx : ((x.born : Int) == (e.born : Int)) = false := by
      rw [beq_eq_false_iff_ne]
      intro he
      exact hn.1 (by rw [show x.born = e.born by omega]; exact List.mem_map.2 ⟨e, List.mem_of_getElem? hj, rfl⟩)
    rw [List.findIdx?_cons, hx, born_at es j e hn.2 hj]
    simp
theorem men {t kt e : TypeId} {x y : Operand} {g : Nat} {l : List (α × β)} {k : α} {z : β} (ha : Has a n env) (ht : P.underlying t = some (.map kt e)) (K : MKey P kt kv) (hx : ev env x = some (.map (some g))) (hy : ev env y = some (kv k))
    (hz : ∀ w, (zeroValue e).run P w = .ok (vv z) w) (hg : gok ops env gd = some true) (hd : dd = some d) (hdn : Nat.blt d n = true) (h : MapR kv vv w g l)
    (hk : ∀ a' w' (st : Int), Has a' n ((d, .tuple #[vv ((mget l k).getD z), .int .i64 st]) :: env) → MapE kv vv w' g l k st → Chg [g] w w' → wpList P ops Q rest a' w') : wpList P ops Q (⟨dd, .mapEntry t x y, ty, pos, af, gd⟩ :: rest) a w := by
  obtain ⟨es, c, hb, he, hst⟩ := h
  have hlt := lt_size hb
  rcases findKey_run K he k w with ⟨a1, a2, a3, _⟩ | ⟨u, j, a1, a2, ⟨ent, a3, a3'⟩, a4, _⟩
  · refine hop (o := ⟨dd, .mapEntry t x y, ty, pos, af, gd⟩) (w' := setMap w g (es.push { key := kv k, val := vv z, born := c }) (c + 1)) (v := .tuple #[vv ((mget l k).getD z), .int .i64 (c : Int)]) ha hg hd hdn ?_ fun a' ha' => hk a' _ _ ha' ⟨_, _, es.size, setMap_at hlt, ?_, fun v => ?_, by rw [Array.toList_push]; exact hst.push _ _⟩ (setMap_chg _ _ _)
    · simp [execOp, ha.ev hx, ha.ev hy, Instr.mapEntry, run_underlying ht, getObj, Sem.run, hb, K.check w _ k, a2, setObj, setMap, hz w, goInt, a1]
    · have := born_at (es.toList ++ [{ key := kv k, val := vv z, born := c }]) es.size { key := kv k, val := vv z, born := c } (hst.push _ _).1 (by rw [List.getElem?_append_right (by simp)]; simp)
      rw [find_toList, Array.toList_push]; exact this
    · rw [Array.toList_push, a3, List.map_append, ← he]
      have : (es.toList ++ [({ key := kv k, val := vv z, born := c } : MapEntry)]).modify es.size (fun e => { e with val := vv v }) = es.toList ++ [{ key := kv k, val := vv v, born := c }] := by
        apply List.ext_getElem?
        intro i
        rw [List.getElem?_modify]
        by_cases hi : i < es.size
        · have h9 : ¬ es.size = i := by omega
          rw [List.getElem?_append_left (by simpa using hi), List.getElem?_append_left (by simpa using hi)]; simp [h9]
        · rw [List.getElem?_append_right (by simp; omega), List.getElem?_append_right (by simp; omega)]
          by_cases h2 : i = es.size
          · subst h2; simp
          · rw [List.getElem?_eq_none (by simp; omega), List.getElem?_eq_none (by simp; omega)]; rfl
      rw [this]
      simp [pr, pq]
  · have hj' : es[j]? = some ent := by simpa using a3
    have hj : ((es[j]?).map (·.key)).getD (kv k) = kv k := by rw [hj']; simp [a3']
    have hbn : ((es[j]?).map (·.born)).getD 0 = ent.born := by rw [hj']; rfl
    refine hop (o := ⟨dd, .mapEntry t x y, ty, pos, af, gd⟩) (w' := setMap w g (es.modify j fun e => { e with key := kv k }) c) (v := .tuple #[vv ((mget l k).getD z), .int .i64 (ent.born : Int)]) ha hg hd hdn ?_ fun a' ha' => hk a' _ _ ha' ⟨_, _, j, setMap_at hlt, ?_, fun v => ?_, by rw [Array.toList_modify]; exact hst.modify (fun e => { e with key := kv k }) (fun _ => rfl) _⟩ (setMap_chg _ _ _)
    · simp [execOp, ha.ev hx, ha.ev hy, Instr.mapEntry, run_underlying ht, getObj, Sem.run, hb, K.check w _ k, a2, hj, hbn, Instr.keyThatStays, K.bits, setObj, setMap, goInt, a1, hj', a3']
    · rw [find_toList, Array.toList_modify]
      have hm := hst.modify (fun e => { e with key := kv k }) (fun _ => rfl) j
      have := born_at (es.toList.modify j fun e => { e with key := kv k }) j { ent with key := kv k } hm.1 (by simp [List.getElem?_modify, a3])
      exact this
    · rw [Array.toList_modify, ← a4 v]
      congr 1
      apply List.ext_getElem?
      intro i
      simp only [List.getElem?_modify]
      by_cases h2 : j = i
      · subst h2
        rw [a3]; simp
      · simp [h2]
theorem mes {t : TypeId} {x y u : Operand} {g : Nat} {l : List (α × β)} {k : α} {st : Int} {v : β} (ha : Has a n env) (hx : ev env x = some (.map (some g))) (hy : ev env y = some (.int .i64 st)) (hu : ev env u = some (vv v))
    (hg : gok ops env gd = some true) (h : MapE kv vv w g l k st)
    (hk : ∀ a' w', Has a' n env → MapR kv vv w' g (mset l k v) → Chg [g] w w' → wpList P ops Q rest a' w') : wpList P ops Q (⟨none, .entryStore t x y u, ty, pos, af, gd⟩ :: rest) a w := by
  obtain ⟨es, c, i, hb, hi, hm, hst⟩ := h
  have hlt := lt_size hb
  refine hops (o := ⟨none, .entryStore t x y u, ty, pos, af, gd⟩) (w' := setMap w g (es.modify i fun e => { e with val := vv v }) c) ha hg rfl ?_ fun a' ha' => hk a' _ ha' ⟨_, _, setMap_at hlt, by rw [Array.toList_modify]; exact hm v, by rw [Array.toList_modify]; exact hst.modify (fun e => { e with val := vv v }) (fun _ => rfl) _⟩ (setMap_chg _ _ _)
  simp [execOp, ha.ev hx, ha.ev hy, ha.ev hu, Instr.entryStore, getObj, Sem.run, hb, asInt, asIntOf, hi, setObj, setMap]
def om {A B : Type} (o : Option A) (n : Option B) (s : A → Option B) : Option B := match o with | none => n | some x => s x
theorem om_cases {A B : Type} {o : Option A} {n : Option B} {s : A → Option B} {r : B} (h : om o n s = some r) : (o = none ∧ n = some r) ∨ ∃ x, o = some x ∧ s x = some r := by
  cases o with
  | none => exact .inl ⟨rfl, h⟩
  | some x => exact .inr ⟨x, rfl, h⟩
/-- v, ok := m[k], as a step -/
theorem mlk {t kt e : TypeId} {x y : Operand} {g : Nat} {l : List (α × β)} {k : α} {z : β} (ha : Has a n env) (ht : P.underlying t = some (.map kt e)) (K : MKey P kt kv) (hx : ev env x = some (.map (some g))) (hy : ev env y = some (kv k))
    (hz : ∀ w, (zeroValue e).run P w = .ok (vv z) w) (hg : gok ops env gd = some true) (hd : dd = some d) (hdn : Nat.blt d n = true) (h : MapR kv vv w g l)
    (hk : ∀ a', Has a' n ((d, .tuple #[vv ((mget l k).getD z), .bool (mget l k).isSome]) :: env) → wpList P ops Q rest a' w) : wpList P ops Q (⟨dd, .lookup t x y true, ty, pos, af, gd⟩ :: rest) a w :=
  hop (o := ⟨dd, .lookup t x y true, ty, pos, af, gd⟩) (w' := w) ha hg hd hdn (mlk_run ha ht K hx hy hz h) hk
end
section
variable {α β : Type} {P : Program} {kv : α → Value} {vv : β → Value} {n d : Nat} {ops : Array Oper} {Q : Exit → Act → World → Prop} {w w' : World} {a : Act} {env : Env} {rest : List Oper} {o : Oper} {v : Value}
  {dd : Option Tmp} {ty : TypeId} {pos : String} {af : Array Edge} {gd : Option (Nat × Bool)}
/-- clear(m) -/
theorem mcl {t : TypeId} {kt e : TypeId} {x : Operand} {g : Nat} {l : List (α × β)} (ha : Has a n env) (ht : P.underlying t = some (.map kt e)) (hx : ev env x = some (.map (some g)))
    (hg : gok ops env gd = some true) (h : MapR kv vv w g l)
    (hk : ∀ a' w', Has a' n env → MapR kv vv w' g [] → Chg [g] w w' → wpList P ops Q rest a' w') : wpList P ops Q (⟨none, .call ⟨.builtin .clear, #[x], #[t]⟩, ty, pos, af, gd⟩ :: rest) a w := by
  obtain ⟨es, c, hb, he, hst⟩ := h
  have hlt := lt_size hb
  refine hopn (o := ⟨none, .call ⟨.builtin .clear, #[x], #[t]⟩, ty, pos, af, gd⟩) (w' := setMap w g #[] c) (v := .tuple #[]) ha hg rfl ?_ fun a' ha' => hk a' _ ha' ⟨#[], c, setMap_at hlt, rfl, List.nodup_nil, fun _ h => nomatch h⟩ (setMap_chg _ _ _)
  simp [execOp, ha.ev hx, builtin, Builtin.clear_, run_underlying ht, getObj, Sem.run, hb, setObj, setMap, resolve, Deferred.ofValue, invoke]
/-- len(m) -/
theorem mln {t : TypeId} {kt e : TypeId} {x : Operand} {g : Nat} {l : List (α × β)} (ha : Has a n env) (ht : P.underlying t = some (.map kt e)) (hx : ev env x = some (.map (some g)))
    (hg : gok ops env gd = some true) (hd : dd = some d) (hdn : Nat.blt d n = true) (h : MapR kv vv w g l)
    (hk : ∀ a', Has a' n ((d, .int .i64 (l.length : Int)) :: env) → wpList P ops Q rest a' w) : wpList P ops Q (⟨dd, .call ⟨.builtin .len, #[x], #[t]⟩, ty, pos, af, gd⟩ :: rest) a w := by
  obtain ⟨es, c, hb, he, hst⟩ := h
  have hl : es.size = l.length := by
    have := congrArg List.length he
    simpa using this
  refine hop (o := ⟨dd, .call ⟨.builtin .len, #[x], #[t]⟩, ty, pos, af, gd⟩) (w' := w) (v := .int .i64 (l.length : Int)) ha hg hd hdn ?_ hk
  simp [execOp, ha.ev hx, builtin, Builtin.len_, run_underlying ht, getObj, Sem.run, hb, goInt, hl, resolve, Deferred.ofValue, invoke]
theorem mln_run {t : TypeId} {kt e : TypeId} {x : Operand} {g : Nat} {l : List (α × β)} (ha : Has a n env) (ht : P.underlying t = some (.map kt e)) (hx : ev env x = some (.map (some g))) (h : MapR kv vv w g l) :
    (execOp a.eval ⟨dd, .call ⟨.builtin .len, #[x], #[t]⟩, ty, pos, af, gd⟩).run P w = .ok (.value (.int .i64 (l.length : Int))) w := by
  obtain ⟨es, c, hb, he, hst⟩ := h
  have hl : es.size = l.length := by
    have := congrArg List.length he
    simpa using this
  simp [execOp, ha.ev hx, builtin, Builtin.len_, run_underlying ht, getObj, Sem.run, hb, goInt, hl, resolve, Deferred.ofValue, invoke]
end
end Go.E
