/- Maps of whole numbers that a call makes; one more element behind a row of one's own. General: no program. -/
import Derived.Test.YtbbompmpecblgaaSeq
import Derived.Maps.AppendAt
import Derived.OwnWalkIn
import Derived.Carry
import Derived.MapKept
import Derived.Laws.OwnMore
namespace Go.Proofs.Ytbbompmpecblgaa.Mem
open Go Go.RowKit Go.Proofs.Ytbbompmpecblgaa.Seq
set_option linter.unusedVariables false
set_option linter.unusedSimpArgs false

theorem bthen {w w1 w2 : World} (h : Below w.heap.size w w1) (k : Below w1.heap.size w1 w2) : Below w.heap.size w w2 := h.trans (k.mono h.size)
theorem cell_below {B : Nat} {w w' : World} (hb : Below B w w') {a : Addr} {v : Value} (h : w.cell? a = some v) (ha : a.block < B) : w'.cell? a = some v := (hb.cell ha).trans h
theorem cell_grow {w w' : World} (hb : Below w.heap.size w w') {a : Addr} {v : Value} (h : w.cell? a = some v) : w'.cell? a = some v := (hb.cell (World.block_lt_of_cell? w a h)).trans h
theorem cell_alloc {w : World} {a : Addr} {v : Value} (h : w.cell? a = some v) (o : Obj) : (w.alloc o).cell? a = some v := cell_grow ((Below.refl _ w).alloc (Nat.le_refl _) o) h
/-- How a key is written as a value. -/
structure KeyOK {κ : Type} [DecidableEq κ] (P : Program) (kt : TypeId) (enc : κ → Value) : Prop where
  under : ∃ d, P.underlying kt = some d ∧ ∀ a b, Instr.sameNow d (enc a) (enc b) = some (decide (a = b))
  chk : ∀ empty a w, (Instr.checkKey empty 10000 kt (enc a)).run P w = .ok () w
  same : ∀ a, Instr.sameBits 10000 (enc a) (enc a) = true

theorem string_key {P : Program} {kt : TypeId} (h : P.underlying kt = some .string) : KeyOK P kt Value.string where
  under := ⟨_, h, fun a b => by
    have : (a == b) = decide (a = b) := by rw [Bool.eq_iff_iff, Go.MapKept.bytes_beq]; simp
    simp [Instr.sameNow, this]⟩
  chk := fun empty a w => by
    rw [show (10000 : Nat) = 9999 + 1 from rfl, Instr.checkKey]
    simp [run_underlying h]
  same := fun a => by
    rw [show (10000 : Nat) = 9999 + 1 from rfl]
    simp only [Instr.sameBits]
    exact (Go.MapKept.bytes_beq a a).2 rfl
theorem int_key {P : Program} {kt : TypeId} (h : P.underlying kt = some (.int .i64)) : KeyOK P kt (Value.int .i64) where
  under := ⟨_, h, fun a b => by
    have : (a == b) = decide (a = b) := by rw [Bool.eq_iff_iff]; simp
    simp [Instr.sameNow, this]⟩
  chk := fun empty a w => by
    rw [show (10000 : Nat) = 9999 + 1 from rfl, Instr.checkKey]
    simp [run_underlying h]
  same := fun a => by
    rw [show (10000 : Nat) = 9999 + 1 from rfl]
    simp [Instr.sameBits]

section
variable {κ : Type} [DecidableEq κ] {P : Program} {kt : TypeId} {enc : κ → Value}

def mk (enc : κ → Value) (x : κ × Int × Nat) : MapEntry := { key := enc x.1, val := .int .i64 x.2.1, born := x.2.2 }
def ix (k : κ) : List (κ × Int × Nat) → Nat → Option (Nat × Value)
  | [], _ => none
  | x :: es, i => if k = x.1 then some (i, .int .i64 x.2.1) else ix k es (i + 1)
def val? (k : κ) (es : List (κ × Int × Nat)) : Option Int := (es.find? (fun x => decide (k = x.1))).map (·.2.1)
theorem findNow_mk {d : TypeDesc} (hd : ∀ a b, Instr.sameNow d (enc a) (enc b) = some (decide (a = b))) (k : κ) : ∀ (es : List (κ × Int × Nat)) (i : Nat), Instr.findNow d (enc k) (es.map (mk enc)) i = some (ix k es i)
  | [], i => rfl
  | x :: es, i => by
    rw [List.map_cons, Instr.findNow]
    have : Instr.sameNow d (enc k) (mk enc x).key = some (decide (k = x.1)) := hd _ _
    rw [this]
    by_cases h : k = x.1
    · rw [decide_eq_true h]; simp only [ix, if_pos h]; rfl
    · rw [decide_eq_false h]; simp only [ix, if_neg h]; exact findNow_mk hd k es (i + 1)
theorem ix_val (k : κ) : ∀ (es : List (κ × Int × Nat)) (i : Nat), (ix k es i).map (·.2) = (val? k es).map (Value.int .i64)
  | [], i => rfl
  | x :: es, i => by
    unfold val?
    by_cases h : k = x.1
    · simp [ix, List.find?_cons, h]
    · have := ix_val k es (i + 1)
      unfold val? at this
      simp only [ix, if_neg h, this, List.find?_cons, decide_eq_false h]
theorem ix_some {k : κ} : ∀ {es : List (κ × Int × Nat)} {i j : Nat} {v : Value}, ix k es i = some (j, v) → ∃ m, j = i + m ∧ ∃ h : m < es.length, es[m].1 = k ∧ ∀ m', (h' : m' < m) → (es[m']'(by omega)).1 ≠ k
  | [], i, j, v, h => by cases h
  | x :: es, i, j, v, h => by
    unfold ix at h
    by_cases hk : k = x.1
    · rw [if_pos hk] at h
      injection h with h; injection h with h1 h2
      exact ⟨0, by omega, by simp, hk.symm, fun m' h' => absurd h' (Nat.not_lt_zero _)⟩
    · rw [if_neg hk] at h
      obtain ⟨m, hj, hm, he, hn⟩ := ix_some h
      refine ⟨m + 1, by omega, by simp; omega, by simpa using he, fun m' h' => ?_⟩
      match m' with
      | 0 => exact fun h => hk h.symm
      | m' + 1 => simpa using hn m' (by omega)
theorem val_none {k : κ} {es : List (κ × Int × Nat)} {i : Nat} (h : ix k es i = none) : val? k es = none := by
  have := ix_val k es i
  rw [h] at this
  cases hv : val? k es with
  | none => rfl
  | some z => rw [hv] at this; cases this

/-- Block b is a map that holds f. -/
def IMap (W : World) (b : Nat) (enc : κ → Value) (f : κ → Option Int) : Prop :=
  ∃ (es : List (κ × Int × Nat)) (clock : Nat), W.heap[b]? = some (.map (es.map (mk enc)).toArray clock) ∧ ∀ k, f k = val? k es

theorem IMap.new {W : World} {b : Nat} (h : W.heap[b]? = some (.map #[] 0)) : IMap W b enc (fun _ => none) := ⟨[], 0, by simpa using h, fun _ => rfl⟩
theorem IMap.lt {W : World} {b : Nat} {f : κ → Option Int} (h : IMap W b enc f) : b < W.heap.size := by obtain ⟨es, c, h, _⟩ := h; exact lt_heap h
theorem IMap.keep {W W' : World} {b : Nat} {f : κ → Option Int} (h : IMap W b enc f) (ho : W'.heap[b]? = W.heap[b]?) : IMap W' b enc f := by obtain ⟨es, c, h, hf⟩ := h; exact ⟨es, c, ho.trans h, hf⟩

theorem IMap.lookup (K : KeyOK P kt enc) {W : World} {b : Nat} {f : κ → Option Int} (h : IMap W b enc f) {T et : TypeId} (hT : P.underlying T = some (.map kt et)) (hz : ∀ w, (zeroValue et).run P w = .ok (.int .i64 0) w) (k : κ) :
    (Instr.lookup T (.map (some b)) (enc k) false).run P W = .ok (.int .i64 ((f k).getD 0)) W := by
  obtain ⟨es, c, hb, hf⟩ := h
  obtain ⟨d, hd, hn⟩ := K.under
  have h1 := ix_val k es 0
  have hfk : (Instr.findKey kt (enc k) (es.map (mk enc)).toArray.toList).run P W = .ok (ix k es 0) W := by
    simp only [Instr.findKey, Sem.run_bind, run_underlying hd, Result.andThen]
    rw [findNow_mk hn]
    rfl
  simp only [Instr.lookup, Sem.run_bind, run_underlying hT, Result.andThen, getObj, Sem.run, hb, K.chk, Sem.run_pure]
  rw [hfk, hf k]
  cases hx : ix k es 0 with
  | none =>
    rw [val_none hx]
    simp [Result.andThen, hz]
  | some jv =>
    obtain ⟨j, v⟩ := jv
    rw [hx] at h1
    cases hv : val? k es with
    | none => rw [hv] at h1; cases h1
    | some z =>
      rw [hv] at h1
      simp only [Option.map_some, Option.some.injEq] at h1
      simp [Result.andThen, h1]

theorem IMap.update (K : KeyOK P kt enc) {W : World} {b : Nat} {f : κ → Option Int} (h : IMap W b enc f) {T et : TypeId} (hT : P.underlying T = some (.map kt et)) (k : κ) (v : Int) :
    ∃ o, (Instr.mapUpdate T (.map (some b)) (enc k) (.int .i64 v)).run P W = .ok () (W.putObj b o) ∧ IMap (W.putObj b o) b enc (fun k' => if k' = k then some v else f k') := by
  obtain ⟨es, c, hb, hf⟩ := h
  obtain ⟨d, hd, hn⟩ := K.under
  have hfk : (Instr.findKey kt (enc k) (es.map (mk enc)).toArray.toList).run P W = .ok (ix k es 0) W := by
    simp only [Instr.findKey, Sem.run_bind, run_underlying hd, Result.andThen]
    rw [findNow_mk hn]
    rfl
  have hlt := lt_heap hb
  cases hx : ix k es 0 with
  | none =>
    refine ⟨.map ((es ++ [(k, v, c)]).map (mk enc)).toArray (c + 1), ?_, es ++ [(k, v, c)], c + 1, World.putObj_heap_same hlt, fun k' => ?_⟩
    · simp only [Instr.mapUpdate, Sem.run_bind, run_underlying hT, Result.andThen, getObj, Sem.run, hb, K.chk, Sem.run_pure]
      rw [hfk, hx]
      simp only [Result.andThen, setObj, Sem.run, hb, World.putObj]
      simp [mk]
    · unfold val?
      rw [List.find?_append]
      show (if k' = k then some v else f k') = _
      by_cases hk : k' = k
      · subst hk
        have := val_none hx
        unfold val? at this
        rw [Option.map_eq_none_iff] at this
        rw [this]; simp
      · rw [if_neg hk, hf k']
        unfold val?
        cases es.find? (fun x => decide (k' = x.1)) <;> simp [hk]
  | some jv =>
    obtain ⟨j, v0⟩ := jv
    obtain ⟨m, rfl, hm, he, hne⟩ := ix_some hx
    rw [Nat.zero_add] at hx
    refine ⟨.map ((es.modify m (fun x => (k, v, x.2.2))).map (mk enc)).toArray c, ?_, es.modify m (fun x => (k, v, x.2.2)), c, World.putObj_heap_same hlt, fun k' => ?_⟩
    · simp only [Instr.mapUpdate, Sem.run_bind, run_underlying hT, Result.andThen, getObj, Sem.run, hb, K.chk, Sem.run_pure]
      rw [hfk, hx]
      have hkey : (((es.map (mk enc)).toArray[m]?).map (·.key)).getD (enc k) = enc k := by
        simp [List.getElem?_eq_getElem hm, mk, he]
      have hstay : (Instr.keyThatStays (enc k) (enc k)).run P W = .ok (enc k) W := by
        unfold Instr.keyThatStays; rw [K.same]; rfl
      have harr : (es.map (mk enc)).toArray.modify m (fun e => { e with key := enc k, val := .int .i64 v }) = ((es.modify m (fun x => (k, v, x.2.2))).map (mk enc)).toArray := by
        apply Array.ext'
        apply List.ext_getElem?
        intro i
        simp only [Array.toList_modify, List.getElem?_modify, List.getElem?_map]
        by_cases hi : m = i
        · subst hi
          rw [List.getElem?_eq_getElem hm]; simp [mk]
        · simp [hi]
      simp only [Result.andThen, hkey, Sem.run_bind, hstay, setObj, Sem.run, hb, World.putObj, harr]
    · show (if k' = k then some v else f k') = _
      rw [hf k']
      unfold val?
      clear hfk hx hf hb
      induction es generalizing m with
      | nil => simp at hm
      | cons x es ih =>
        cases m with
        | zero =>
          simp only [List.getElem_cons_zero] at he
          simp only [List.modify_zero_cons, List.find?_cons]
          by_cases hk : k' = k
          · simp [hk]
          · simp [hk, he]
        | succ m =>
          simp only [List.modify_succ_cons, List.find?_cons]
          have h0 : x.1 ≠ k := by simpa using hne 0 (by omega)
          by_cases hk : k' = x.1
          · have : k' ≠ k := fun h => h0 (hk ▸ h)
            simp [hk, h0]
          · simp only [decide_eq_false hk]
            exact ih m (by simpa using hm) (by simpa using he) (fun m' h' => by have := hne (m' + 1) (by omega); simpa using this)
end

/-! One element more. -/
section
variable {P : Program} {ops : Array Oper} {rest : List Oper} {o : Oper} {a : Act} {Q : Exit → Act → World → Prop}
/-- 'append(v, y)', y of one cell: what is behind it. -/
theorem append_run (W : World) (base : Nat) (t ty e : TypeId) (z : Value) (bytes : Nat) (ht : P.underlying t = some (.slice e)) (hinfo : (P.info? e).map (fun i => (i.zero, i.size, i.bytes)) = some (some z, 1, bytes)) (hz : z.cells.size = 1)
    (v : Value) (xs : List Value) (y : Value) (h1 : y.oneCell' = true) (HO : W.ownsRow base e 1 v xs.length xs) (hbase : base ≤ W.heap.size) (hl : (xs.length + 1) * bytes ≤ 140737488355328) (hm : xs.length + 1 ≤ maxLen) :
    ∃ v1 w1, (Builtin.append_ #[t, t] ty #[v, .slice (some ⟨W.heap.size, 0, none⟩) 1 1]).run P (W.alloc (.cells #[y] e)) = .ok v1 w1 ∧ w1.ownsRow base e 1 v1 (xs ++ [y]).length (xs ++ [y]) ∧ W.grownBy w1 v.ownBlock ∧
      (∃ g cap, v1 = .slice (some ⟨g, 0, none⟩) (xs.length + 1) cap ∧ (v.ownBlock = some g ∨ W.heap.size ≤ g)) := by
  obtain ⟨i0, hi, hzz⟩ := Option.map_eq_some_iff.1 hinfo
  simp only [Prod.mk.injEq] at hzz
  obtain ⟨hz0, hz1, hz2⟩ := hzz
  obtain ⟨v1, w1, hr, h2, hg, _, hat⟩ := run_append_own_at (P := P) (W.alloc (.cells #[y] e)) base t ty e i0 z 1 bytes ht hi hz0 hz1 hz2 hz (by omega) v xs.length xs (HO.alloc _) ⟨W.heap.size, 0, none⟩ 1 1 [y] rfl (cell_one_new W y e) (by simpa using h1) hm hl (by simp; omega)
  refine ⟨v1, w1, hr, by simpa using h2, World.grownBy.trans (World.grownBy_alloc W _ _) hg, ?_⟩
  obtain ⟨g, cap, rfl⟩ : ∃ g cap, v1 = .slice (some ⟨g, 0, none⟩) (xs.length + 1) cap := by
    rcases h2.2 with ⟨_, h⟩ | ⟨g, cap, cur, rfl, _⟩
    · omega
    · exact ⟨g, cap, rfl⟩
  refine ⟨g, cap, rfl, ?_⟩
  rcases hat with hat | hat
  · exact .inl hat.symm
  · right
    simp [Value.ownBlock] at hat
    omega
/-- The same for the walk inside a fence. -/
theorem in_append {F : Fence} {n : Nat} (W : World) (base : Nat) (hgd : o.guard = none) (s x : Operand) (t e : TypeId) (z : Value) (bytes : Nat)
    (ho : o.op = .call { callee := .builtin .append, args := #[s, x], argTypes := #[t, t] }) (ht : P.underlying t = some (.slice e)) (hinfo : (P.info? e).map (fun i => (i.zero, i.size, i.bytes)) = some (some z, 1, bytes)) (hz : z.cells.size = 1)
    (v : Value) (xs : List Value) (y : Value) (hs : a.eval s = v) (hx : a.eval x = .slice (some ⟨W.heap.size, 0, none⟩) 1 1) (h1 : y.oneCell' = true) (HO : W.ownsRow base e 1 v xs.length xs) (hbase : base ≤ W.heap.size) (hl : (xs.length + 1) * bytes ≤ 140737488355328) (hm : xs.length + 1 ≤ maxLen)
    (h : ∀ v1 w1, w1.ownsRow base e 1 v1 (xs ++ [y]).length (xs ++ [y]) → W.grownBy w1 v.ownBlock → (∃ g cap, v1 = .slice (some ⟨g, 0, none⟩) (xs.length + 1) cap ∧ (v.ownBlock = some g ∨ W.heap.size ≤ g)) → wpListIn F n P ops Q rest (a.put o.dst v1) w1) :
    wpListIn F n P ops Q (o :: rest) a (W.alloc (.cells #[y] e)) := by
  obtain ⟨v1, w1, hrun, r1, r2, r3⟩ := append_run (P := P) W base t o.type e z bytes ht hinfo hz v xs y h1 HO hbase hl hm
  refine wpListIn_plain hgd fun K hK' => ?_
  unfold Oper.wpIn
  refine ⟨?_, ?_⟩
  · simp [Oper.about, ho, resolve, Target.leads, Sem.run_pure]
  · rw [Oper.semAt_plain F _ _ (by rw [ho]; intro c hc'; cases hc')]
    simp [execOp, ho, resolve, invoke, builtin, hs, hx, hrun, Result.andThen]
    exact hK' _ _ (h v1 w1 r1 r2 r3)
/-- .. and for the plain walk. -/
theorem pl_append (W : World) (base : Nat) (hgd : o.guard = none) (s x : Operand) (t e : TypeId) (z : Value) (bytes : Nat)
    (ho : o.op = .call { callee := .builtin .append, args := #[s, x], argTypes := #[t, t] }) (ht : P.underlying t = some (.slice e)) (hinfo : (P.info? e).map (fun i => (i.zero, i.size, i.bytes)) = some (some z, 1, bytes)) (hz : z.cells.size = 1)
    (v : Value) (xs : List Value) (y : Value) (hs : a.eval s = v) (hx : a.eval x = .slice (some ⟨W.heap.size, 0, none⟩) 1 1) (h1 : y.oneCell' = true) (HO : W.ownsRow base e 1 v xs.length xs) (hbase : base ≤ W.heap.size) (hl : (xs.length + 1) * bytes ≤ 140737488355328) (hm : xs.length + 1 ≤ maxLen)
    (h : ∀ v1 w1, w1.ownsRow base e 1 v1 (xs ++ [y]).length (xs ++ [y]) → W.grownBy w1 v.ownBlock → (∃ g cap, v1 = .slice (some ⟨g, 0, none⟩) (xs.length + 1) cap ∧ (v.ownBlock = some g ∨ W.heap.size ≤ g)) → wpList P ops Q rest (a.put o.dst v1) w1) :
    wpList P ops Q (o :: rest) a (W.alloc (.cells #[y] e)) := by
  obtain ⟨v1, w1, hrun, r1, r2, r3⟩ := append_run (P := P) W base t o.type e z bytes ht hinfo hz v xs y h1 HO hbase hl hm
  refine wpList_plain hgd fun K hK => ?_
  unfold Oper.wp execOp
  simp only [ho, resolve, invoke, builtin, Sem.run_bind, Sem.run_pure, Result.andThen_ok, List.map_toArray, List.map_cons, List.map_nil, hs, hx, hrun]
  exact hK _ _ (h v1 w1 r1 r2 r3)
end

/-! Slices that are read: n elements of sz cells, all cells in order, the block below B. -/
def RdRow (B : Nat) (w : World) (v : Value) (sz n : Nat) (cs : List Value) : Prop :=
  ∃ A c, v = .slice A n c ∧ n ≤ c ∧ n ≤ 9223372036854775807 ∧ cs.length = n * sz ∧ (0 < cs.length → ∃ ad : Addr, A = some ad ∧ ad.block < B ∧ ∀ j u, cs[j]? = some u → w.cell? (ad.add j) = some u)
theorem RdRow.nil (B : Nat) (w : World) (sz : Nat) : RdRow B w (.slice none 0 0) sz 0 [] := ⟨none, 0, rfl, Nat.le_refl _, by omega, by simp, fun h => by simp at h⟩
theorem RdRow.below {B : Nat} {w w' : World} {v : Value} {sz n : Nat} {cs : List Value} (h : RdRow B w v sz n cs) {B' : Nat} (hb : Below B' w w') (hB : B ≤ B') : RdRow B w' v sz n cs := by
  obtain ⟨A, c, hv, h1, h2, h3, h4⟩ := h
  exact ⟨A, c, hv, h1, h2, h3, fun h0 => by
    obtain ⟨ad, e, hlt, hc⟩ := h4 h0
    refine ⟨ad, e, hlt, fun j u hj => (hb.cell (p := ad.add j) ?_).trans (hc j u hj)⟩
    have : (ad.add j).block = ad.block := by unfold Addr.add; split <;> rfl
    omega⟩
theorem RdRow.mono {B B' : Nat} {w : World} {v : Value} {sz n : Nat} {cs : List Value} (h : RdRow B w v sz n cs) (hB : B ≤ B') : RdRow B' w v sz n cs := by
  obtain ⟨A, c, hv, h1, h2, h3, h4⟩ := h
  exact ⟨A, c, hv, h1, h2, h3, fun h0 => by obtain ⟨ad, e, hlt, hc⟩ := h4 h0; exact ⟨ad, e, by omega, hc⟩⟩
/-- A row of one's own reads. -/
theorem RdRow.of_own {w : World} {base n sz : Nat} {e : TypeId} {v : Value} {xs : List Value} (h : w.ownsRow base e sz v n xs) : RdRow w.heap.size w v sz n xs := by
  have hl := h.1
  rcases h.2 with ⟨rfl, rfl⟩ | ⟨g, cap, cur, rfl, hb, hh, hc, hm, _⟩
  · have : xs = [] := List.eq_nil_of_length_eq_zero (by omega)
    subst this
    exact RdRow.nil _ _ _
  · exact ⟨_, cap, rfl, hc, by simp only [maxLen] at hm; omega, hl, fun h0 => ⟨_, rfl, lt_heap hh, fun j u hj => h.cells (g := g) rfl j u hj⟩⟩
end Go.Proofs.Ytbbompmpecblgaa.Mem
