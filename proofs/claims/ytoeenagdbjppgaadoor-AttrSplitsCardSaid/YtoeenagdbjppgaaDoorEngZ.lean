/- The rules by which these proofs step through the code, part Z. -/
import Derived.Test.YtoeenagdbjppgaaDoorEngY
import Derived.ArgAppend
import Derived.Lib.AppendZerosOnto
import Derived.Lib.Overlaps
set_option linter.unusedVariables false
set_option linter.unusedSimpArgs false
namespace Go.E
open Go.RowKit Go.Sort Go.Proofs
/-! rows of flat elements, cell by cell: copied within themselves, grown by zeros -/
section
variable {α : Type} {r : Rep α} {enc : α → List Value}
theorem Own.raw (hf : Flat r enc) {T : TypeId} {w : World} {M : List Nat} {g cap : Nat} {xs : List α} (h : Own r T w M (some ⟨g, 0, none⟩) cap xs) :
    ∃ junk, BoxT T w g (xs.flatMap enc ++ junk) ∧ (xs.flatMap enc ++ junk).length = cap * r.sz ∧ xs.length ≤ cap ∧ cap ≤ maxLen ∧ g ∈ M := by
  rcases h with ⟨e, _⟩ | ⟨g', cur, e, hg, hb, h1, h2, h3, hl⟩
  · cases e
  · cases e
    have e1 := (RL.flat hf).1 hl
    refine ⟨cur.toList.drop (xs.length * r.sz), ?_, ?_, h2, h3, hg⟩
    · rw [← e1, List.take_append_drop]; exact hb
    · rw [← e1, List.take_append_drop]; simpa using h1
theorem Own.ofRaw (hf : Flat r enc) {T : TypeId} {w : World} {M : List Nat} {g cap : Nat} {xs : List α} {cs : List Value} (hb : BoxT T w g cs) (h1 : cs.length = cap * r.sz) (ht : cs.take (xs.length * r.sz) = xs.flatMap enc) (h2 : xs.length ≤ cap) (h3 : cap ≤ maxLen) (hg : g ∈ M) : Own r T w M (some ⟨g, 0, none⟩) cap xs :=
  .inr ⟨g, cs.toArray, rfl, hg, hb, by simpa using h1, h2, h3, by simpa using (RL.flat hf).2 ht⟩
theorem BoxT.cell {T : TypeId} {w : World} {g o : Nat} {cs : List Value} {v : Value} (h : BoxT T w g cs) (hv : cs[o]? = some v) : w.cell? ⟨g, o, none⟩ = some v := h.box.cell hv
theorem BoxT.sub {T : TypeId} {w : World} {g o m : Nat} {cs vs : List Value} (h : BoxT T w g cs) (hv : vs = (cs.drop o).take m) : ∀ j v, vs[j]? = some v → w.cell? ((⟨g, o, none⟩ : Addr).add j) = some v := by
  intro j v hj
  rw [Addr.add_lit]
  subst hv
  rw [List.getElem?_take] at hj
  split at hj
  · rw [List.getElem?_drop] at hj; exact h.cell hj
  · cases hj
end
theorem run_copyK {P : Program} (w : World) (dT sT ty elem : TypeId) (k g o dLen dCap : Nat) (a : Addr) (sLen sCap : Nat) (cs : List Value) (t : TypeId) (vs : List Value)
    (hu : P.underlying dT = some (.slice elem)) (hs : (P.info? elem).map (·.size) = some k)
    (hg : w.heap[g]? = some (.cells cs.toArray t (0, 0))) (hn : vs.length = Nat.min sLen dLen * k)
    (hsrc : ∀ j v, vs[j]? = some v → w.cell? (a.add j) = some v) (hfit : o + vs.length ≤ cs.length) (h1 : ∀ v ∈ vs, v.oneCell' = true) :
    (Builtin.copy_ #[dT, sT] ty #[.slice (some ⟨g, o, none⟩) dLen dCap, .slice (some a) sLen sCap]).run P w =
      .ok (.int .i64 (Nat.min sLen dLen)) (w.setRow g (cs.take o ++ vs ++ cs.drop (o + vs.length)).toArray) := by
  have hl := run_loadCells_list (P := P) w a vs hsrc
  have hst := run_storeCells_at P g o t vs 0 cs.toArray w hg (by simpa using hfit) h1
  simp only [Nat.add_zero, List.toList_toArray] at hst
  obtain ⟨i, hi, hs⟩ := Option.map_eq_some_iff.1 hs
  simp [Builtin.copy_, run_underlying hu, Builtin.lenOf, Builtin.firstCells, sizeOf, typeInfo, hi, hs, ← hn, hl, hst, goInt]
section
variable {P : Program} {n d : Nat} {ops : Array Oper} {Q : Exit → Act → World → Prop} {w w' : World} {a : Act} {env : Env} {rest : List Oper} {o : Oper} {v : Value}
  {dd : Option Tmp} {ty : TypeId} {pos : String} {af : Array Edge} {gd : Option (Nat × Bool)}
theorem setRow_chg {g : Nat} {row : Array Value} : Chg [g] w (w.setRow g row) :=
  ⟨rfl, rfl, rfl, by simp [World.setRow], fun k hk' hn => by
    simp only [World.setRow, Array.getElem?_modify]
    rw [if_neg (fun e => hn (by simp [e]))]⟩
/-- copy(dst, src) of elements of k cells, by the cells; src may lie in the same row -/
theorem cpK {tD tS T T0 : TypeId} {x y : Operand} {g o' L cap1 n2 cap2 k : Nat} {ad : Addr} {cs vs : List Value} (ha : Has a n env) (hu : P.underlying tD = some (.slice T)) (hs : (P.info? T).map (·.size) = some k)
    (hx : ev env x = some (.slice (some ⟨g, o', none⟩) L cap1)) (hy : ev env y = some (.slice (some ad) n2 cap2))
    (hg : gok ops env gd = some true) (hd : dd = some d) (hdn : Nat.blt d n = true) (hb : BoxT T0 w g cs) (hn : vs.length = Nat.min n2 L * k)
    (hsrc : ∀ j v, vs[j]? = some v → w.cell? (ad.add j) = some v) (hfit : o' + vs.length ≤ cs.length) (h1 : ∀ v ∈ vs, v.oneCell' = true)
    (hk : ∀ a' w', BoxT T0 w' g (cs.take o' ++ vs ++ cs.drop (o' + vs.length)) → Chg [g] w w' → Has a' n ((d, .int .i64 (Nat.min n2 L)) :: env) → wpList P ops Q rest a' w') :
    wpList P ops Q (⟨dd, .call ⟨.builtin .copy, #[x, y], #[tD, tS]⟩, ty, pos, af, gd⟩ :: rest) a w := by
  have hr := run_copyK (P := P) w tD tS ty T k g o' L cap1 ad n2 cap2 cs T0 vs hu hs hb hn hsrc hfit h1
  refine hop (o := ⟨dd, .call ⟨.builtin .copy, #[x, y], #[tD, tS]⟩, ty, pos, af, gd⟩) (w' := w.setRow g (cs.take o' ++ vs ++ cs.drop (o' + vs.length)).toArray) (v := .int .i64 (Nat.min n2 L)) ha hg hd hdn ?_ ?_
  · simp [execOp, ha.ev hx, ha.ev hy, builtin, hr, resolve, Deferred.ofValue, invoke]
  · intro a' ha'
    exact hk a' _ (setRow_heap w g _ _ T0 _ hb) setRow_chg ha'
/-- append(s[:L], src...) where there is room, by the cells; src may lie in the same row -/
theorem apR {t T : TypeId} {x y : Operand} {g L cap n2 cap2 k : Nat} {ad : Addr} {cs vs : List Value} (ha : Has a n env) (ht : P.underlying t = some (.slice T)) (hs : (P.info? T).map (·.size) = some k)
    (hx : ev env x = some (.slice (some ⟨g, 0, none⟩) L cap)) (hy : ev env y = some (.slice (some ad) n2 cap2))
    (hg : gok ops env gd = some true) (hd : dd = some d) (hdn : Nat.blt d n = true) (hb : BoxT T w g cs) (hn : vs.length = n2 * k)
    (hsrc : ∀ j v, vs[j]? = some v → w.cell? (ad.add j) = some v) (h1 : ∀ v ∈ vs, v.oneCell' = true) (hroom : L + n2 ≤ cap) (hfit : L * k + vs.length ≤ cs.length)
    (hk : ∀ a' w', BoxT T w' g (cs.take (L * k) ++ vs ++ cs.drop (L * k + vs.length)) → Chg [g] w w' → Has a' n ((d, .slice (some ⟨g, 0, none⟩) (L + n2) cap) :: env) → wpList P ops Q rest a' w') :
    wpList P ops Q (⟨dd, .call ⟨.builtin .append, #[x, y], #[t, t]⟩, ty, pos, af, gd⟩ :: rest) a w := by
  obtain ⟨i, hi, rfl⟩ := Option.map_eq_some_iff.1 hs
  have hr := run_append_room (P := P) w t ty T i ht hi g L cap cs.toArray hb ad n2 cap2 vs hn hsrc h1 hroom (by simpa using hfit)
  simp only [List.toList_toArray] at hr
  refine hop (o := ⟨dd, .call ⟨.builtin .append, #[x, y], #[t, t]⟩, ty, pos, af, gd⟩) (w' := w.setRow g (cs.take (L * i.size) ++ vs ++ cs.drop (L * i.size + vs.length)).toArray) (v := .slice (some ⟨g, 0, none⟩) (L + n2) cap) ha hg hd hdn ?_ ?_
  · have e : execOp a.eval ⟨dd, .call ⟨.builtin .append, #[x, y], #[t, t]⟩, ty, pos, af, gd⟩ = (Builtin.append_ #[t, t] ty #[.slice (some ⟨g, 0, none⟩) L cap, .slice (some ad) n2 cap2] >>= fun v => pure (Next.value v)) := by
      simp [execOp, resolve, invoke, builtin, ha.ev hx, ha.ev hy]
    exact execOp_val' e hr
  · intro a' ha'
    exact hk a' _ (setRow_heap w g _ _ T _ hb) setRow_chg ha'
/-- append(s[:L], make(S, m)...) where there is no room -/
theorem apz {t tn T : TypeId} {x y : Operand} {L cap m k nb : Nat} {ad : Addr} {olds : List Value} {kq kn : IntKind} {zm : Int} (ha : Has a n env) (ht : ElemT P t T k nb) (htn : P.underlying tn = some (.int kn))
    (hx : ev env x = some (.slice (some ad) L cap)) (hy : ev env y = some (.int kq zm)) (hzm : zm = (m : Int))
    (hg : gok ops env gd = some true) (hd : dd = some d) (hdn : Nat.blt d n = true) (hol : olds.length = L * k) (hsrc : ∀ j v, olds[j]? = some v → w.cell? (ad.add j) = some v)
    (h0 : 0 < m) (hgr : cap < L + m) (hb : (L + m) * nb ≤ 140737488355328) (h63 : L + m ≤ maxLen)
    (hk : ∀ a' w' g cap' junk, g = w.heap.size → BoxT T w' g (olds ++ junk) → (olds ++ junk).length = cap' * k → L + m ≤ cap' → cap' ≤ maxLen → Chg [] w w' → g < w'.heap.size →
      Has a' n ((d, .slice (some ⟨g, 0, none⟩) (L + m) cap') :: env) → wpList P ops Q rest a' w') :
    wpList P ops Q (⟨dd, .call ⟨.builtin .append, #[x, y], #[t, tn]⟩, ty, pos, af, gd⟩ :: rest) a w := by
  subst hzm
  obtain ⟨i, z, hi, hz, hs, hby, hzs⟩ := ht.info
  have hold : (Builtin.firstCells i.size L (.slice (some ad) L cap)).run P w.drew = .ok olds.toArray w.drew := by
    rw [hs]
    exact run_firstCells_some w.drew k L ad L cap olds hol hsrc
  have h63' : L + m ≤ 9223372036854775807 := by simp only [maxLen] at h63; omega
  have hmb : m * nb ≤ (L + m) * nb := Nat.mul_le_mul_right _ (by omega)
  have hr := Lib.run_append_grow_zeros w t tn ty T i z kq kn ht.under htn hi hz (some ad) L cap olds hold m h0 (by rw [hs]; exact ht.pos) hgr (by omega) (by rw [hby]; omega) (by rw [hby]; exact growslice_fits hgr hb)
  have hge := grownCap_ge w (L + m) cap T
  have hcm := grownCap_le_maxLen w (L + m) cap T h63
  generalize grownCap w (L + m) cap T = G at hr hge hcm
  refine hop (o := ⟨dd, .call ⟨.builtin .append, #[x, y], #[t, tn]⟩, ty, pos, af, gd⟩) (v := .slice (some ⟨w.heap.size, 0, none⟩) (L + m) G) (w' := w.drew.alloc (.cells (olds.toArray ++ Builtin.zeroCells z.cells m ++ Builtin.zeroCells z.cells (G - (L + m))) T)) ha hg hd hdn ?_ ?_
  · have e : execOp a.eval ⟨dd, .call ⟨.builtin .append, #[x, y], #[t, tn]⟩, ty, pos, af, gd⟩ = (Builtin.append_ #[t, tn] ty #[.slice (some ad) L cap, .int kq (m : Int)] >>= fun v => pure (Next.value v)) := by
      simp [execOp, resolve, invoke, builtin, ha.ev hx, ha.ev hy]
    exact execOp_val' e hr
  · intro a' ha'
    refine hk a' _ _ G ((Builtin.zeroCells z.cells m).toList ++ (Builtin.zeroCells z.cells (G - (L + m))).toList) rfl ?_ ?_ hge hcm ⟨rfl, rfl, rfl, by simp, fun k hk _ => heap_alloc_old w.drew _ hk⟩ (by simp) ha'
    · have h := heap_alloc_new w.drew (.cells (olds.toArray ++ Builtin.zeroCells z.cells m ++ Builtin.zeroCells z.cells (G - (L + m))) T (0, 0))
      have e : (olds ++ ((Builtin.zeroCells z.cells m).toList ++ (Builtin.zeroCells z.cells (G - (L + m))).toList)).toArray = olds.toArray ++ Builtin.zeroCells z.cells m ++ Builtin.zeroCells z.cells (G - (L + m)) := by
        apply Array.ext'
        simp
      unfold BoxT
      rw [e]; exact h
    · simp only [List.length_append, Array.length_toList, size_zeroCells, hzs, hol, ← Nat.add_mul]
      congr 1
      omega
theorem sgt_run {t t' : TypeId} {x y : Operand} {l m : List UInt8} (ha : Has a n env) (hx : ev env x = some (.string (bstr l))) (hy : ev env y = some (.string (bstr m))) (w : World) :
    (execOp a.eval ⟨dd, .binOp .gtr t x y t', ty, pos, af, gd⟩).run P w = .ok (.value (.bool (!(Op.bytesLess (bstr l).toList (bstr m).toList || (bstr l).toList == (bstr m).toList)))) w := by
  refine execOp_val (s := do eqGuard .gtr t x y (.string (bstr l)) (.string (bstr m)); Go.binOp .gtr t (.string (bstr l)) (.string (bstr m))) (by simp [execOp, ha.ev hx, ha.ev hy]) ?_
  rw [run_bind (eqGuard_plain (by simp) (by simp) w)]
  simp [Go.binOp, Op.stringOp]
/-- x[l:h:m] of a slice that lies somewhere, by the numbers -/
theorem slR_run {t T : TypeId} {x : Operand} {lo hi mx : Option Operand} {ad : Addr} {len cap l h m s : Nat} (ha : Has a n env) (ht : P.underlying t = some (.slice T)) (hs : (P.info? T).map (·.size) = some s)
    (hx : ev env x = some (.slice (some ad) len cap)) (hlo : lo = none ∧ l = 0 ∨ ∃ y k, lo = some y ∧ ev env y = some (.int k (l : Int)))
    (hhi : hi = none ∧ h = len ∧ mx = none ∨ ∃ y k, hi = some y ∧ ev env y = some (.int k (h : Int))) (hmx : mx = none ∧ m = cap ∨ ∃ y k, mx = some y ∧ ev env y = some (.int k (m : Int)))
    (h1 : l ≤ h) (h2 : h ≤ m) (h3 : m ≤ cap) (w : World) :
    (execOp a.eval ⟨dd, .slice t x lo hi mx, ty, pos, af, gd⟩).run P w = .ok (.value (.slice (if m = l then some ad else some (ad.add (l * s))) (h - l) (m - l))) w := by
  obtain ⟨inf, hi', hs⟩ := Option.map_eq_some_iff.1 hs
  rcases hlo with ⟨rfl, rfl⟩ | ⟨y, k, rfl, ey⟩ <;> rcases hhi with ⟨rfl, rfl, rfl⟩ | ⟨z, k', rfl, ez⟩ <;> rcases hmx with ⟨e, e'⟩ | ⟨u, k2, e, eu⟩ <;> (try cases e) <;> (try subst e')
  · refine execOp_val' (s := Instr.sliceAt t (.slice (some ad) h m) none none none) (by simp [execOp, ha.ev hx]) ?_
    simp [Instr.sliceAt, Instr.slice, Instr.sliceBounds, run_underlying ht, sizeOf, typeInfo, hi', hs]
  · refine execOp_val' (s := Instr.sliceAt t (.slice (some ad) len m) none (some (.int k' (h : Int))) none) (by simp [execOp, ha.ev hx, ha.ev ez]) ?_
    simp [Instr.sliceAt, Instr.slice, Instr.sliceBounds, run_underlying ht, sizeOf, typeInfo, hi', hs, run_sliceBound w k' h m _ (by omega) (by omega)]
  · refine execOp_val' (s := Instr.sliceAt t (.slice (some ad) len cap) none (some (.int k' (h : Int))) (some (.int k2 (m : Int)))) (by simp [execOp, ha.ev hx, ha.ev ez, ha.ev eu]) ?_
    simp [Instr.sliceAt, Instr.slice, Instr.sliceBounds, run_underlying ht, sizeOf, typeInfo, hi', hs, run_sliceBound w k' h m _ (by omega) (by omega), run_sliceBound w k2 m cap _ (by omega) (by omega)]
  · refine execOp_val' (s := Instr.sliceAt t (.slice (some ad) h m) (some (.int k (l : Int))) none none) (by simp [execOp, ha.ev hx, ha.ev ey]) ?_
    simp [Instr.sliceAt, Instr.slice, Instr.sliceBounds, run_underlying ht, sizeOf, typeInfo, hi', hs, run_sliceBound w k l h _ (by omega) (by omega)]
  · refine execOp_val' (s := Instr.sliceAt t (.slice (some ad) len m) (some (.int k (l : Int))) (some (.int k' (h : Int))) none) (by simp [execOp, ha.ev hx, ha.ev ey, ha.ev ez]) ?_
    simp [Instr.sliceAt, Instr.slice, Instr.sliceBounds, run_underlying ht, sizeOf, typeInfo, hi', hs, run_sliceBound w k' h m _ (by omega) (by omega), run_sliceBound w k l h _ (by omega) (by omega)]
  · refine execOp_val' (s := Instr.sliceAt t (.slice (some ad) len cap) (some (.int k (l : Int))) (some (.int k' (h : Int))) (some (.int k2 (m : Int)))) (by simp [execOp, ha.ev hx, ha.ev ey, ha.ev ez, ha.ev eu]) ?_
    simp [Instr.sliceAt, Instr.slice, Instr.sliceBounds, run_underlying ht, sizeOf, typeInfo, hi', hs, run_sliceBound w k' h m _ (by omega) (by omega), run_sliceBound w k2 m cap _ (by omega) (by omega), run_sliceBound w k l h _ (by omega) (by omega)]
/-- []T{..} of values of one cell each, to the letter of the world -/
theorem bslE {t T : TypeId} {len : Nat} {parts : Array (Nat × Operand)} {vals : List Value} (ha : Has a n env)
    (hp : parts.toList.map (fun p => ev env p.2) = vals.map some) (cs : List Value)
    (hrun : ∀ w, (Instr.buildSlice t len (parts.toList.zip vals |>.map fun p => (p.1.1, p.2)).toArray).run P w = .ok (.slice (some ⟨w.heap.size, 0, none⟩) len len) (w.alloc (.cells cs.toArray T)))
    (hg : gok ops env gd = some true) (hd : dd = some d) (hdn : Nat.blt d n = true)
    (hk : ∀ a', Has a' n ((d, .slice (some ⟨w.heap.size, 0, none⟩) len len) :: env) → wpList P ops Q rest a' (w.alloc (.cells cs.toArray T))) : wpList P ops Q (⟨dd, .buildSlice t len parts, ty, pos, af, gd⟩ :: rest) a w := by
  have hr : (execOp a.eval ⟨dd, .buildSlice t len parts, ty, pos, af, gd⟩).run P w = .ok (.value (.slice (some ⟨w.heap.size, 0, none⟩) len len)) (w.alloc (.cells cs.toArray T)) := by
    have e : execOp a.eval ⟨dd, .buildSlice t len parts, ty, pos, af, gd⟩ = (Instr.buildSlice t len (parts.toList.zip vals |>.map fun p => (p.1.1, p.2)).toArray >>= fun v => pure (Next.value v)) := by
      rw [← parts_eq ha hp]; rfl
    exact execOp_val' e (hrun w)
  exact hop ha hg hd hdn hr hk
end
theorem zone (zero : Array Value) (h0 : 0 < zero.size) (h : ∀ v ∈ zero, v.oneCell' = true) (n : Nat) : ∀ v ∈ (Builtin.zeroCells zero n).toList, v.oneCell' = true := by
  intro v hv
  simp only [Builtin.zeroCells, Array.toList_map, List.mem_map] at hv
  obtain ⟨i, _, rfl⟩ := hv
  rw [getElem!_pos zero _ (Nat.mod_lt _ h0)]
  exact h _ (Array.getElem_mem _)
theorem zlen (zero : Array Value) (n : Nat) : (Builtin.zeroCells zero n).toList.length = n * zero.size := by simp [Builtin.zeroCells]
/-! one cell an element: the kit's sort there and the sort of several cells are one -/
section
variable {α : Type} [Inhabited α] {enc : α → Value}
theorem flat_one (d : Array α) : flatK (fun x => [enc x]) 1 d = d.map enc := by
  apply Array.ext'
  apply List.ext_getElem?
  intro j
  simp only [flatK, Array.toList_map, List.getElem?_map, Nat.div_one, Nat.mod_one, Nat.mul_one]
  by_cases h : j < d.size
  · simp [h]
  · simp [h]
theorem holds_one {w : World} {blk off : Nat} {d : Array α} (h : HoldsK (fun x => [enc x]) 1 w blk off d) : Holds enc w blk off d := by
  unfold HoldsK at h
  rw [flat_one] at h
  intro j hj
  have := h j (by simpa using hj)
  refine ⟨?_, this.2⟩
  rw [this.1]
  simp [hj]
theorem putCells_one (off : Nat) (d : Array α) (c : Array Value) : putCells enc off d c = putCells id off (flatK (fun x => [enc x]) 1 d) c := by
  rw [flat_one]
  unfold putCells
  apply Array.ext
  · simp
  · intro k h1 h2
    simp only [Array.getElem_mapIdx, Array.size_map]
    by_cases h : off ≤ k ∧ k < off + d.size
    · rw [if_pos h, if_pos h]
      have : k - off < d.size := by omega
      simp [this]
    · rw [if_neg h, if_neg h]
theorem sortW_one (w : World) (blk off m : Nat) (d : Array α) (os : Array Obj) : sortWorld enc w blk off m d os = sortWorldK (fun x => [enc x]) 1 w blk off m d os := by
  unfold sortWorld sortWorldK putRowK putRow
  congr 2
  funext c
  exact putCells_one off d c
end
theorem Flat.str : Flat rStr (fun l => [Value.string (bstr l)]) := ⟨fun _ _ _ _ => Iff.rfl⟩
theorem Own.short {α : Type} {r : Rep α} {T : TypeId} {w : World} {M : List Nat} {ao : Option Addr} {cap : Nat} {xs : List α} (h : Own r T w M ao cap xs) (n : Nat) (hn : n ≤ xs.length) : Own r T w M ao cap (xs.take n) := by
  rcases h with ⟨e1, e2, e3⟩ | ⟨g, cur, e, hg, hb, h1, h2, h3, hl⟩
  · exact .inl ⟨e1, by rw [e2, List.take_nil], e3⟩
  · have hm : (xs.take n).length = n := by rw [List.length_take]; omega
    refine .inr ⟨g, cur, e, hg, hb, h1, by omega, h3, ?_⟩
    have := RL.take hl n
    rw [List.take_take, Nat.min_eq_left (Nat.mul_le_mul_right _ hn)] at this
    rw [hm]; exact this
end Go.E
