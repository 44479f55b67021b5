/- Joined by a program: Mem, Rd, Shapes, ShelfA, Word. -/
import Derived.Maps.AppendAt
import Derived.OwnWalkIn
import Derived.Carry
import Derived.MapKept
import Derived.Laws.OwnMore
import Derived.Deep.Slices
import Derived.Deep.Fields
import Derived.Test.YthdenkkllpkplaaGreatProg
import Derived.Tactics
import Derived.KernelRfl
import Derived.Shelf.Small.Utf8
import Derived.Shelf.Small.Strs
import Derived.Shelf.Strings.Runes
import Derived.Shelf.Strings.IndexAny
import Derived.Shelf.Strings.AsciiSet
import Derived.Shelf.Strings.IndexAnyAll
import Derived.Below
import Derived.OwnWalk
import Derived.Laws.IdiomStrings
import Derived.WalkKit
import Derived.RowKit3
import Derived.LoopTactic
import Derived.Outline
import Derived.Lib.Hide
import Derived.Test.YthdenkkllpkplaaGreatC02
import Derived.Test.YthdenkkllpkplaaGreatC01
section
/- Maps of whole numbers that a call makes; one more element behind a row of one's own. General: no program. -/
namespace Go.Proofs.YthdenkkllpkplaaGreat.Mem
open Go Go.RowKit Go.Proofs.YthdenkkllpkplaaGreat.Seq
set_option linter.unusedVariables false
set_option linter.unusedSimpArgs false

theorem bthen {w w1 w2 : World} (h : Below w.heap.size w w1) (k : Below w1.heap.size w1 w2) : Below w.heap.size w w2 := h.trans (k.mono h.size)
theorem cell_below {B : Nat} {w w' : World} (hb : Below B w w') {a : Addr} {v : Value} (h : w.cell? a = some v) (ha : a.block < B) : w'.cell? a = some v := (hb.cell ha).trans h
theorem cell_grow {w w' : World} (hb : Below w.heap.size w w') {a : Addr} {v : Value} (h : w.cell? a = some v) : w'.cell? a = some v := (hb.cell (World.block_lt_of_cell? w a h)).trans h
theorem cell_alloc {w : World} {a : Addr} {v : Value} (h : w.cell? a = some v) (o : Obj) : (w.alloc o).cell? a = some v := cell_grow ((Below.refl _ w).alloc (Nat.le_refl _) o) h
/-- How a key is written as a value. -/
structure KeyOK {κ : Type} [DecidableEq κ] (P : Program) (kt : TypeId) (enc : κ → Value) : Prop where
  under : ∃ d, P.underlying kt = some d ∧ ∀ a b, Instr.sameNow d (enc a) (enc b) = some (decide (a = b))
  chk : ∀ empty a w, (Instr.checkKey empty 10000 kt (enc a)).run P w = .ok () w
  same : ∀ a, Instr.sameBits 10000 (enc a) (enc a) = true

theorem string_key {P : Program} {kt : TypeId} (h : P.underlying kt = some .string) : KeyOK P kt Value.string where
  under := ⟨_, h, fun a b => by
    have : (a == b) = decide (a = b) := by rw [Bool.eq_iff_iff, Go.MapKept.bytes_beq]; simp
    simp [Instr.sameNow, this]⟩
  chk := fun empty a w => by
    rw [show (10000 : Nat) = 9999 + 1 from rfl, Instr.checkKey]
    simp [run_underlying h]
  same := fun a => by
    rw [show (10000 : Nat) = 9999 + 1 from rfl]
    simp only [Instr.sameBits]
    exact (Go.MapKept.bytes_beq a a).2 rfl
theorem int_key {P : Program} {kt : TypeId} (h : P.underlying kt = some (.int .i64)) : KeyOK P kt (Value.int .i64) where
  under := ⟨_, h, fun a b => by
    have : (a == b) = decide (a = b) := by rw [Bool.eq_iff_iff]; simp
    simp [Instr.sameNow, this]⟩
  chk := fun empty a w => by
    rw [show (10000 : Nat) = 9999 + 1 from rfl, Instr.checkKey]
    simp [run_underlying h]
  same := fun a => by
    rw [show (10000 : Nat) = 9999 + 1 from rfl]
    simp [Instr.sameBits]

section
variable {κ : Type} [DecidableEq κ] {P : Program} {kt : TypeId} {enc : κ → Value}

def mk (enc : κ → Value) (x : κ × Int × Nat) : MapEntry := { key := enc x.1, val := .int .i64 x.2.1, born := x.2.2 }
def ix (k : κ) : List (κ × Int × Nat) → Nat → Option (Nat × Value)
  | [], _ => none
  | x :: es, i => if k = x.1 then some (i, .int .i64 x.2.1) else ix k es (i + 1)
def val? (k : κ) (es : List (κ × Int × Nat)) : Option Int := (es.find? (fun x => decide (k = x.1))).map (·.2.1)
theorem findNow_mk {d : TypeDesc} (hd : ∀ a b, Instr.sameNow d (enc a) (enc b) = some (decide (a = b))) (k : κ) : ∀ (es : List (κ × Int × Nat)) (i : Nat), Instr.findNow d (enc k) (es.map (mk enc)) i = some (ix k es i)
  | [], i => rfl
  | x :: es, i => by
    rw [List.map_cons, Instr.findNow]
    have : Instr.sameNow d (enc k) (mk enc x).key = some (decide (k = x.1)) := hd _ _
    rw [this]
    by_cases h : k = x.1
    · rw [decide_eq_true h]; simp only [ix, if_pos h]; rfl
    · rw [decide_eq_false h]; simp only [ix, if_neg h]; exact findNow_mk hd k es (i + 1)
theorem ix_val (k : κ) : ∀ (es : List (κ × Int × Nat)) (i : Nat), (ix k es i).map (·.2) = (val? k es).map (Value.int .i64)
  | [], i => rfl
  | x :: es, i => by
    unfold val?
    by_cases h : k = x.1
    · simp [ix, List.find?_cons, h]
    · have := ix_val k es (i + 1)
      unfold val? at this
      simp only [ix, if_neg h, this, List.find?_cons, decide_eq_false h]
theorem ix_some {k : κ} : ∀ {es : List (κ × Int × Nat)} {i j : Nat} {v : Value}, ix k es i = some (j, v) → ∃ m, j = i + m ∧ ∃ h : m < es.length, es[m].1 = k ∧ ∀ m', (h' : m' < m) → (es[m']'(by omega)).1 ≠ k
  | [], i, j, v, h => by cases h
  | x :: es, i, j, v, h => by
    unfold ix at h
    by_cases hk : k = x.1
    · rw [if_pos hk] at h
      injection h with h; injection h with h1 h2
      exact ⟨0, by omega, by simp, hk.symm, fun m' h' => absurd h' (Nat.not_lt_zero _)⟩
    · rw [if_neg hk] at h
      obtain ⟨m, hj, hm, he, hn⟩ := ix_some h
      refine ⟨m + 1, by omega, by simp; omega, by simpa using he, fun m' h' => ?_⟩
      match m' with
      | 0 => exact fun h => hk h.symm
      | m' + 1 => simpa using hn m' (by omega)
theorem val_none {k : κ} {es : List (κ × Int × Nat)} {i : Nat} (h : ix k es i = none) : val? k es = none := by
  have := ix_val k es i
  rw [h] at this
  cases hv : val? k es with
  | none => rfl
  | some z => rw [hv] at this; cases this

/-- Block b is a map that holds f. -/
def IMap (W : World) (b : Nat) (enc : κ → Value) (f : κ → Option Int) : Prop :=
  ∃ (es : List (κ × Int × Nat)) (clock : Nat), W.heap[b]? = some (.map (es.map (mk enc)).toArray clock) ∧ ∀ k, f k = val? k es

theorem IMap.new {W : World} {b : Nat} (h : W.heap[b]? = some (.map #[] 0)) : IMap W b enc (fun _ => none) := ⟨[], 0, by simpa using h, fun _ => rfl⟩
theorem IMap.lt {W : World} {b : Nat} {f : κ → Option Int} (h : IMap W b enc f) : b < W.heap.size := by obtain ⟨es, c, h, _⟩ := h; exact lt_heap h
theorem IMap.keep {W W' : World} {b : Nat} {f : κ → Option Int} (h : IMap W b enc f) (ho : W'.heap[b]? = W.heap[b]?) : IMap W' b enc f := by obtain ⟨es, c, h, hf⟩ := h; exact ⟨es, c, ho.trans h, hf⟩

theorem IMap.lookup (K : KeyOK P kt enc) {W : World} {b : Nat} {f : κ → Option Int} (h : IMap W b enc f) {T et : TypeId} (hT : P.underlying T = some (.map kt et)) (hz : ∀ w, (zeroValue et).run P w = .ok (.int .i64 0) w) (k : κ) :
    (Instr.lookup T (.map (some b)) (enc k) false).run P W = .ok (.int .i64 ((f k).getD 0)) W := by
  obtain ⟨es, c, hb, hf⟩ := h
  obtain ⟨d, hd, hn⟩ := K.under
  have h1 := ix_val k es 0
  have hfk : (Instr.findKey kt (enc k) (es.map (mk enc)).toArray.toList).run P W = .ok (ix k es 0) W := by
    simp only [Instr.findKey, Sem.run_bind, run_underlying hd, Result.andThen]
    rw [findNow_mk hn]
    rfl
  simp only [Instr.lookup, Sem.run_bind, run_underlying hT, Result.andThen, getObj, Sem.run, hb, K.chk, Sem.run_pure]
  rw [hfk, hf k]
  cases hx : ix k es 0 with
  | none =>
    rw [val_none hx]
    simp [Result.andThen, hz]
  | some jv =>
    obtain ⟨j, v⟩ := jv
    rw [hx] at h1
    cases hv : val? k es with
    | none => rw [hv] at h1; cases h1
    | some z =>
      rw [hv] at h1
      simp only [Option.map_some, Option.some.injEq] at h1
      simp [Result.andThen, h1]

theorem IMap.update (K : KeyOK P kt enc) {W : World} {b : Nat} {f : κ → Option Int} (h : IMap W b enc f) {T et : TypeId} (hT : P.underlying T = some (.map kt et)) (k : κ) (v : Int) :
    ∃ o, (Instr.mapUpdate T (.map (some b)) (enc k) (.int .i64 v)).run P W = .ok () (W.putObj b o) ∧ IMap (W.putObj b o) b enc (fun k' => if k' = k then some v else f k') := by
  obtain ⟨es, c, hb, hf⟩ := h
  obtain ⟨d, hd, hn⟩ := K.under
  have hfk : (Instr.findKey kt (enc k) (es.map (mk enc)).toArray.toList).run P W = .ok (ix k es 0) W := by
    simp only [Instr.findKey, Sem.run_bind, run_underlying hd, Result.andThen]
    rw [findNow_mk hn]
    rfl
  have hlt := lt_heap hb
  cases hx : ix k es 0 with
  | none =>
    refine ⟨.map ((es ++ [(k, v, c)]).map (mk enc)).toArray (c + 1), ?_, es ++ [(k, v, c)], c + 1, World.putObj_heap_same hlt, fun k' => ?_⟩
    · simp only [Instr.mapUpdate, Sem.run_bind, run_underlying hT, Result.andThen, getObj, Sem.run, hb, K.chk, Sem.run_pure]
      rw [hfk, hx]
      simp only [Result.andThen, setObj, Sem.run, hb, World.putObj]
      simp [mk]
    · unfold val?
      rw [List.find?_append]
      show (if k' = k then some v else f k') = _
      by_cases hk : k' = k
      · subst hk
        have := val_none hx
        unfold val? at this
        rw [Option.map_eq_none_iff] at this
        rw [this]; simp
      · rw [if_neg hk, hf k']
        unfold val?
        cases es.find? (fun x => decide (k' = x.1)) <;> simp [hk]
  | some jv =>
    obtain ⟨j, v0⟩ := jv
    obtain ⟨m, rfl, hm, he, hne⟩ := ix_some hx
    rw [Nat.zero_add] at hx
    refine ⟨.map ((es.modify m (fun x => (k, v, x.2.2))).map (mk enc)).toArray c, ?_, es.modify m (fun x => (k, v, x.2.2)), c, World.putObj_heap_same hlt, fun k' => ?_⟩
    · simp only [Instr.mapUpdate, Sem.run_bind, run_underlying hT, Result.andThen, getObj, Sem.run, hb, K.chk, Sem.run_pure]
      rw [hfk, hx]
      have hkey : (((es.map (mk enc)).toArray[m]?).map (·.key)).getD (enc k) = enc k := by
        simp [List.getElem?_eq_getElem hm, mk, he]
      have hstay : (Instr.keyThatStays (enc k) (enc k)).run P W = .ok (enc k) W := by
        unfold Instr.keyThatStays; rw [K.same]; rfl
      have harr : (es.map (mk enc)).toArray.modify m (fun e => { e with key := enc k, val := .int .i64 v }) = ((es.modify m (fun x => (k, v, x.2.2))).map (mk enc)).toArray := by
        apply Array.ext'
        apply List.ext_getElem?
        intro i
        simp only [Array.toList_modify, List.getElem?_modify, List.getElem?_map]
        by_cases hi : m = i
        · subst hi
          rw [List.getElem?_eq_getElem hm]; simp [mk]
        · simp [hi]
      simp only [Result.andThen, hkey, Sem.run_bind, hstay, setObj, Sem.run, hb, World.putObj, harr]
    · show (if k' = k then some v else f k') = _
      rw [hf k']
      unfold val?
      clear hfk hx hf hb
      induction es generalizing m with
      | nil => simp at hm
      | cons x es ih =>
        cases m with
        | zero =>
          simp only [List.getElem_cons_zero] at he
          simp only [List.modify_zero_cons, List.find?_cons]
          by_cases hk : k' = k
          · simp [hk]
          · simp [hk, he]
        | succ m =>
          simp only [List.modify_succ_cons, List.find?_cons]
          have h0 : x.1 ≠ k := by simpa using hne 0 (by omega)
          by_cases hk : k' = x.1
          · have : k' ≠ k := fun h => h0 (hk ▸ h)
            simp [hk, h0]
          · simp only [decide_eq_false hk]
            exact ih m (by simpa using hm) (by simpa using he) (fun m' h' => by have := hne (m' + 1) (by omega); simpa using this)
end

/-! One element more. -/
section
variable {P : Program} {ops : Array Oper} {rest : List Oper} {o : Oper} {a : Act} {Q : Exit → Act → World → Prop}
/-- 'append(v, y)', y of one cell: what is behind it. -/
theorem append_run (W : World) (base : Nat) (t ty e : TypeId) (z : Value) (bytes : Nat) (ht : P.underlying t = some (.slice e)) (hinfo : (P.info? e).map (fun i => (i.zero, i.size, i.bytes)) = some (some z, 1, bytes)) (hz : z.cells.size = 1)
    (v : Value) (xs : List Value) (y : Value) (h1 : y.oneCell' = true) (HO : W.ownsRow base e 1 v xs.length xs) (hbase : base ≤ W.heap.size) (hl : (xs.length + 1) * bytes ≤ 140737488355328) (hm : xs.length + 1 ≤ maxLen) :
    ∃ v1 w1, (Builtin.append_ #[t, t] ty #[v, .slice (some ⟨W.heap.size, 0, none⟩) 1 1]).run P (W.alloc (.cells #[y] e)) = .ok v1 w1 ∧ w1.ownsRow base e 1 v1 (xs ++ [y]).length (xs ++ [y]) ∧ W.grownBy w1 v.ownBlock ∧
      (∃ g cap, v1 = .slice (some ⟨g, 0, none⟩) (xs.length + 1) cap ∧ (v.ownBlock = some g ∨ W.heap.size ≤ g)) := by
  obtain ⟨i0, hi, hzz⟩ := Option.map_eq_some_iff.1 hinfo
  simp only [Prod.mk.injEq] at hzz
  obtain ⟨hz0, hz1, hz2⟩ := hzz
  obtain ⟨v1, w1, hr, h2, hg, _, hat⟩ := run_append_own_at (P := P) (W.alloc (.cells #[y] e)) base t ty e i0 z 1 bytes ht hi hz0 hz1 hz2 hz (by omega) v xs.length xs (HO.alloc _) ⟨W.heap.size, 0, none⟩ 1 1 [y] rfl (cell_one_new W y e) (by simpa using h1) hm hl (by simp; omega)
  refine ⟨v1, w1, hr, by simpa using h2, World.grownBy.trans (World.grownBy_alloc W _ _) hg, ?_⟩
  obtain ⟨g, cap, rfl⟩ : ∃ g cap, v1 = .slice (some ⟨g, 0, none⟩) (xs.length + 1) cap := by
    rcases h2.2 with ⟨_, h⟩ | ⟨g, cap, cur, rfl, _⟩
    · omega
    · exact ⟨g, cap, rfl⟩
  refine ⟨g, cap, rfl, ?_⟩
  rcases hat with hat | hat
  · exact .inl hat.symm
  · right
    simp [Value.ownBlock] at hat
    omega
/-- The same for the walk inside a fence. -/
theorem in_append {F : Fence} {n : Nat} (W : World) (base : Nat) (hgd : o.guard = none) (s x : Operand) (t e : TypeId) (z : Value) (bytes : Nat)
    (ho : o.op = .call { callee := .builtin .append, args := #[s, x], argTypes := #[t, t] }) (ht : P.underlying t = some (.slice e)) (hinfo : (P.info? e).map (fun i => (i.zero, i.size, i.bytes)) = some (some z, 1, bytes)) (hz : z.cells.size = 1)
    (v : Value) (xs : List Value) (y : Value) (hs : a.eval s = v) (hx : a.eval x = .slice (some ⟨W.heap.size, 0, none⟩) 1 1) (h1 : y.oneCell' = true) (HO : W.ownsRow base e 1 v xs.length xs) (hbase : base ≤ W.heap.size) (hl : (xs.length + 1) * bytes ≤ 140737488355328) (hm : xs.length + 1 ≤ maxLen)
    (h : ∀ v1 w1, w1.ownsRow base e 1 v1 (xs ++ [y]).length (xs ++ [y]) → W.grownBy w1 v.ownBlock → (∃ g cap, v1 = .slice (some ⟨g, 0, none⟩) (xs.length + 1) cap ∧ (v.ownBlock = some g ∨ W.heap.size ≤ g)) → wpListIn F n P ops Q rest (a.put o.dst v1) w1) :
    wpListIn F n P ops Q (o :: rest) a (W.alloc (.cells #[y] e)) := by
  obtain ⟨v1, w1, hrun, r1, r2, r3⟩ := append_run (P := P) W base t o.type e z bytes ht hinfo hz v xs y h1 HO hbase hl hm
  refine wpListIn_plain hgd fun K hK' => ?_
  unfold Oper.wpIn
  refine ⟨?_, ?_⟩
  · simp [Oper.about, ho, resolve, Target.leads, Sem.run_pure]
  · rw [Oper.semAt_plain F _ _ (by rw [ho]; intro c hc'; cases hc')]
    simp [execOp, ho, resolve, invoke, builtin, hs, hx, hrun, Result.andThen]
    exact hK' _ _ (h v1 w1 r1 r2 r3)
/-- .. and for the plain walk. -/
theorem pl_append (W : World) (base : Nat) (hgd : o.guard = none) (s x : Operand) (t e : TypeId) (z : Value) (bytes : Nat)
    (ho : o.op = .call { callee := .builtin .append, args := #[s, x], argTypes := #[t, t] }) (ht : P.underlying t = some (.slice e)) (hinfo : (P.info? e).map (fun i => (i.zero, i.size, i.bytes)) = some (some z, 1, bytes)) (hz : z.cells.size = 1)
    (v : Value) (xs : List Value) (y : Value) (hs : a.eval s = v) (hx : a.eval x = .slice (some ⟨W.heap.size, 0, none⟩) 1 1) (h1 : y.oneCell' = true) (HO : W.ownsRow base e 1 v xs.length xs) (hbase : base ≤ W.heap.size) (hl : (xs.length + 1) * bytes ≤ 140737488355328) (hm : xs.length + 1 ≤ maxLen)
    (h : ∀ v1 w1, w1.ownsRow base e 1 v1 (xs ++ [y]).length (xs ++ [y]) → W.grownBy w1 v.ownBlock → (∃ g cap, v1 = .slice (some ⟨g, 0, none⟩) (xs.length + 1) cap ∧ (v.ownBlock = some g ∨ W.heap.size ≤ g)) → wpList P ops Q rest (a.put o.dst v1) w1) :
    wpList P ops Q (o :: rest) a (W.alloc (.cells #[y] e)) := by
  obtain ⟨v1, w1, hrun, r1, r2, r3⟩ := append_run (P := P) W base t o.type e z bytes ht hinfo hz v xs y h1 HO hbase hl hm
  refine wpList_plain hgd fun K hK => ?_
  unfold Oper.wp execOp
  simp only [ho, resolve, invoke, builtin, Sem.run_bind, Sem.run_pure, Result.andThen_ok, List.map_toArray, List.map_cons, List.map_nil, hs, hx, hrun]
  exact hK _ _ (h v1 w1 r1 r2 r3)
end

/-! Slices that are read: n elements of sz cells, all cells in order, the block below B. -/
def RdRow (B : Nat) (w : World) (v : Value) (sz n : Nat) (cs : List Value) : Prop :=
  ∃ A c, v = .slice A n c ∧ n ≤ c ∧ n ≤ 9223372036854775807 ∧ cs.length = n * sz ∧ (0 < cs.length → ∃ ad : Addr, A = some ad ∧ ad.block < B ∧ ∀ j u, cs[j]? = some u → w.cell? (ad.add j) = some u)
theorem RdRow.nil (B : Nat) (w : World) (sz : Nat) : RdRow B w (.slice none 0 0) sz 0 [] := ⟨none, 0, rfl, Nat.le_refl _, by omega, by simp, fun h => by simp at h⟩
theorem RdRow.below {B : Nat} {w w' : World} {v : Value} {sz n : Nat} {cs : List Value} (h : RdRow B w v sz n cs) {B' : Nat} (hb : Below B' w w') (hB : B ≤ B') : RdRow B w' v sz n cs := by
  obtain ⟨A, c, hv, h1, h2, h3, h4⟩ := h
  exact ⟨A, c, hv, h1, h2, h3, fun h0 => by
    obtain ⟨ad, e, hlt, hc⟩ := h4 h0
    refine ⟨ad, e, hlt, fun j u hj => (hb.cell (p := ad.add j) ?_).trans (hc j u hj)⟩
    have : (ad.add j).block = ad.block := by unfold Addr.add; split <;> rfl
    omega⟩
theorem RdRow.mono {B B' : Nat} {w : World} {v : Value} {sz n : Nat} {cs : List Value} (h : RdRow B w v sz n cs) (hB : B ≤ B') : RdRow B' w v sz n cs := by
  obtain ⟨A, c, hv, h1, h2, h3, h4⟩ := h
  exact ⟨A, c, hv, h1, h2, h3, fun h0 => by obtain ⟨ad, e, hlt, hc⟩ := h4 h0; exact ⟨ad, e, by omega, hc⟩⟩
/-- A row of one's own reads. -/
theorem RdRow.of_own {w : World} {base n sz : Nat} {e : TypeId} {v : Value} {xs : List Value} (h : w.ownsRow base e sz v n xs) : RdRow w.heap.size w v sz n xs := by
  have hl := h.1
  rcases h.2 with ⟨rfl, rfl⟩ | ⟨g, cap, cur, rfl, hb, hh, hc, hm, _⟩
  · have : xs = [] := List.eq_nil_of_length_eq_zero (by omega)
    subst this
    exact RdRow.nil _ _ _
  · exact ⟨_, cap, rfl, hc, by simp only [maxLen] at hm; omega, hl, fun h0 => ⟨_, rfl, lt_heap hh, fun j u hj => h.cells (g := g) rfl j u hj⟩⟩
end Go.Proofs.YthdenkkllpkplaaGreat.Mem
end
section
/- Slices that read as lists, at any depth: general words. No program. -/
namespace Go.Proofs.YthdenkkllpkplaaGreat.Rd
open Go Go.RowKit Go.Proofs.YthdenkkllpkplaaGreat.Seq Go.Proofs.YthdenkkllpkplaaGreat.Mem
set_option linter.unusedVariables false

/-- How the cells of an element read. B: all that is read lies in blocks below it. -/
abbrev Elem (α : Type) := Nat → World → List Value → α → Prop
/-- What was read is read so, whatever is new, or written above B. -/
def Elem.Keeps {α : Type} (E : Elem α) : Prop := ∀ (B B' : Nat) (w w' : World) (cs : List Value) (a : α), E B w cs a → Below B' w w' → B ≤ B' → E B' w' cs a
theorem add_block (a : Addr) (n : Nat) : (a.add n).block = a.block := by unfold Addr.add; split <;> rfl

/-- v is a slice of elements of sz cells that reads as l. -/
def RdL {α : Type} (E : Elem α) (sz : Nat) (B : Nat) (w : World) (v : Value) (l : List α) : Prop :=
  ∃ A c, v = .slice A l.length c ∧ l.length ≤ c ∧ c ≤ maxLen ∧ (0 < l.length → ∃ b o, A = some (⟨b, o, none⟩ : Addr) ∧ b < B ∧
    ∀ i (h : i < l.length), ∃ cs : List Value, cs.length = sz ∧ (∀ j u, cs[j]? = some u → w.cell? ⟨b, o + i * sz + j, none⟩ = some u) ∧ E B w cs l[i])

section
variable {α : Type} {E : Elem α} {sz B B' : Nat} {w w' : World} {v : Value} {l : List α}
theorem RdL.nil : RdL E sz B w (.slice none 0 0) [] := ⟨none, 0, rfl, Nat.le_refl _, by simp [maxLen], fun h => absurd h (by simp)⟩
theorem RdL.keep (hE : E.Keeps) (h : RdL E sz B w v l) (hb : Below B' w w') (hB : B ≤ B') : RdL E sz B' w' v l := by
  obtain ⟨A, c, hv, h1, h2, h3⟩ := h
  refine ⟨A, c, hv, h1, h2, fun h0 => ?_⟩
  obtain ⟨b, o, e, hlt, hc⟩ := h3 h0
  refine ⟨b, o, e, by omega, fun i hi => ?_⟩
  obtain ⟨cs, h4, h5, h6⟩ := hc i hi
  exact ⟨cs, h4, fun j u hj => (hb.cell (p := ⟨b, o + i * sz + j, none⟩) (by show b < B'; omega)).trans (h5 j u hj), hE _ _ _ _ _ _ h6 hb hB⟩
theorem RdL.below (hE : E.Keeps) (h : RdL E sz B w v l) (hb : Below w.heap.size w w') (hB : B ≤ w.heap.size) : RdL E sz w.heap.size w' v l := h.keep hE hb hB
theorem RdL.mono (hE : E.Keeps) (h : RdL E sz B w v l) (hB : B ≤ B') : RdL E sz B' w v l := h.keep hE (Below.refl _ _) hB
theorem RdL.len (h : RdL E sz B w v l) : l.length ≤ maxLen := by obtain ⟨A, c, _, h1, h2, _⟩ := h; omega
/-- The form of a slice. -/
theorem RdL.form (h : RdL E sz B w v l) : ∃ A c, v = .slice A l.length c ∧ l.length ≤ c ∧ c ≤ maxLen ∧ RdL E sz B w (.slice A l.length c) l := by
  obtain ⟨A, c, rfl, h1, h2, h3⟩ := h
  exact ⟨A, c, rfl, h1, h2, A, c, rfl, h1, h2, h3⟩
/-- An element. -/
theorem RdL.at_ {A : Option Addr} {n c : Nat} (h : RdL E sz B w (.slice A n c) l) {i : Nat} (hi : i < l.length) :
    ∃ (b o : Nat) (cs : List Value), A = some ⟨b, o, none⟩ ∧ b < B ∧ cs.length = sz ∧ (∀ j u, cs[j]? = some u → w.cell? ⟨b, o + i * sz + j, none⟩ = some u) ∧ E B w cs l[i] := by
  obtain ⟨A', c', hv, h1, h2, h3⟩ := h
  injection hv with e1 e2 e3
  subst e1
  obtain ⟨b, o, e, hlt, hc⟩ := h3 (by omega)
  obtain ⟨cs, h4, h5, h6⟩ := hc i hi
  exact ⟨b, o, cs, e, hlt, h4, h5, h6⟩
/-- A row of one's own. -/
theorem RdL.of_own {base : Nat} {e : TypeId} {n : Nat} {xs : List Value} (h : w.ownsRow base e sz v n xs) (hl : l.length = n) (hB : ∀ g, v.ownBlock = some g → g < B)
    (hE : ∀ i (hi : i < l.length), E B w ((xs.drop (i * sz)).take sz) l[i]) : RdL E sz B w v l := by
  have hx := h.1
  rcases h.2 with ⟨rfl, rfl⟩ | ⟨g, cap, cur, rfl, hb, hh, hc, hm, hcs, ht⟩
  · have : l = [] := List.eq_nil_of_length_eq_zero hl
    subst this
    exact RdL.nil
  · subst hl
    refine ⟨_, cap, rfl, hc, hm, fun h0 => ⟨_, _, rfl, hB g (by simp [Value.ownBlock]), fun i hi => ⟨(xs.drop (i * sz)).take sz, ?_, fun j u hj => ?_, hE i hi⟩⟩⟩
    · rw [List.length_take, List.length_drop, hx]
      have : (i + 1) * sz ≤ l.length * sz := Nat.mul_le_mul_right _ hi
      rw [Nat.add_mul] at this
      omega
    · rw [List.getElem?_take] at hj
      split at hj
      · rw [List.getElem?_drop] at hj
        have := h.cells (g := g) rfl _ _ hj
        rw [Addr.add_lit] at this
        rw [Nat.add_assoc]
        exact this
      · cases hj
end

/-! Elements of one cell. -/
def leaf {α : Type} (enc : α → Value) : Elem α := fun _ _ cs a => cs = [enc a]
theorem leaf_keeps {α : Type} (enc : α → Value) : (leaf enc).Keeps := fun _ _ _ _ _ _ h _ _ => h
def strE : Elem ByteArray := fun _ _ cs s => cs = [.string s] ∧ s.size ≤ maxLen
theorem strE_keeps : strE.Keeps := fun _ _ _ _ _ _ h _ _ => h
def intE (k : IntKind) : Elem Int := fun _ _ cs z => cs = [.int k z] ∧ (Lit.int k z).wf = true
theorem intE_keeps (k : IntKind) : (intE k).Keeps := fun _ _ _ _ _ _ h _ _ => h
theorem strE_at {B : Nat} {w : World} {A : Option Addr} {n c : Nat} {l : List ByteArray} (h : RdL strE 1 B w (.slice A n c) l) {i : Nat} (hi : i < l.length) :
    ∃ b o : Nat, A = some ⟨b, o, none⟩ ∧ b < B ∧ w.cell? ⟨b, o + i, none⟩ = some (.string l[i]) ∧ l[i].size ≤ maxLen := by
  obtain ⟨b, o, cs, e, hlt, hl, hc, rfl, hm⟩ := h.at_ hi
  refine ⟨b, o, e, hlt, ?_, hm⟩
  have := hc 0 _ rfl
  rwa [Nat.mul_one, Nat.add_zero] at this
theorem intE_at {B : Nat} {w : World} {k : IntKind} {A : Option Addr} {n c : Nat} {l : List Int} (h : RdL (intE k) 1 B w (.slice A n c) l) {i : Nat} (hi : i < l.length) :
    ∃ b o : Nat, A = some ⟨b, o, none⟩ ∧ b < B ∧ w.cell? ⟨b, o + i, none⟩ = some (.int k l[i]) ∧ (Lit.int k l[i]).wf = true := by
  obtain ⟨b, o, cs, e, hlt, hl, hc, rfl, hm⟩ := h.at_ hi
  refine ⟨b, o, e, hlt, ?_, hm⟩
  have := hc 0 _ rfl
  rwa [Nat.mul_one, Nat.add_zero] at this

/-! What an argument reads as. -/
section
variable {H : Type} {enc : TypeId × Value → H} {P : Program} {w : World} {base : Nat} {spare : Nat → Bool} {held : Bool} {α : Type} {E : Elem α}
/-- How an element is opened. -/
def Opens (enc : TypeId × Value → H) (P : Program) (w : World) (base : Nat) (spare : Nat → Bool) (held : Bool) (e : TypeId) (E : Elem α) : Prop :=
  ∀ (fuel : Nat) (cs : List Value) (x : DataW H × List MemPlace), DataW.trod enc P w base spare held fuel e cs = some x → ∃ a, E w.heap.size w cs a
theorem opens_string {e : TypeId} (he : P.underlying e = some .string) : Opens enc P w base spare held e strE := fun fuel cs x h => by
  obtain ⟨s, h1, _, h3⟩ := DataW.trod_string he h
  exact ⟨s, h1, h3⟩
theorem opens_int {e : TypeId} {k : IntKind} (he : P.underlying e = some (.int k)) : Opens enc P w base spare held e (intE k) := fun fuel cs x h => by
  obtain ⟨s, h1, _, h3⟩ := DataW.trod_int he h
  exact ⟨s, h1, h3⟩
theorem open_cells {t e : TypeId} {fuel : Nat} {cs : List Value} {x : DataW H × List MemPlace} (ht : P.underlying t = some (.slice e)) (hp : 0 < P.cellsOf e) (hE : Opens enc P w base spare held e E)
    (h : DataW.trod enc P w base spare held fuel t cs = some x) : ∃ (v : Value) (l : List α), cs = [v] ∧ RdL E (P.cellsOf e) w.heap.size w v l := by
  rcases Deep.open_slice ht h with ⟨rfl, _⟩ | ⟨a, len, cap, m, n, D, Pl, rfl, hb, hl, hm, hmm, rfl, hx⟩
  · exact ⟨_, [], rfl, RdL.nil⟩
  · have hlm : len ≤ m := by rw [hmm]; split <;> omega
    have key : ∀ k, k ≤ len → ∃ l : List α, l.length = k ∧ ∀ i (hi : i < l.length), ∃ cs : List Value, cs.length = P.cellsOf e ∧ (∀ j u, cs[j]? = some u → w.cell? (a.add (i * P.cellsOf e + j)) = some u) ∧ E w.heap.size w cs l[i] := by
      intro k
      induction k with
      | zero => exact fun _ => ⟨[], rfl, fun i hi => absurd hi (by simp)⟩
      | succ k ih =>
        intro hk
        obtain ⟨l, h1, h2⟩ := ih (by omega)
        obtain ⟨cs', h3, h4⟩ := hx k (by omega)
        obtain ⟨y, hy⟩ := hE _ _ _ h4
        obtain ⟨_, hcl, hat⟩ := World.cells?_some h3
        refine ⟨l ++ [y], by simp [h1], fun i hi => ?_⟩
        by_cases hil : i < l.length
        · obtain ⟨cs, g1, g2, g3⟩ := h2 i hil
          exact ⟨cs, g1, g2, by rw [List.getElem_append_left hil]; exact g3⟩
        · have : i = k := by simp at hi; omega
          subst this
          refine ⟨cs', hcl, fun j u hj => ?_, by rw [List.getElem_append_right (by omega)]; simp [h1]; exact hy⟩
          have hjl : j < P.cellsOf e := by have := (List.getElem?_eq_some_iff.1 hj).1; omega
          rw [← Deep.add_add, hat j hjl, hj]
    obtain ⟨l, rfl, h2⟩ := key len (Nat.le_refl _)
    refine ⟨_, l, rfl, _, cap, rfl, hl, hm, fun h0 => ?_⟩
    obtain ⟨cs', h3, _⟩ := hx 0 (by omega)
    have hblk := World.cells?_block h3 hp
    rw [add_block] at hblk
    obtain ⟨_, hcl, hat⟩ := World.cells?_some h3
    have h0c := hat 0 hp
    have hspot : a.spot = none := by
      have hv : cs'[0]? = some (cs'[0]'(by omega)) := List.getElem?_eq_getElem (by omega)
      rw [hv] at h0c
      simpa [Addr.add] using World.cell?_spot h0c
    obtain ⟨b, o, s⟩ := a
    simp only at hspot
    subst hspot
    refine ⟨b, o, rfl, hblk, fun i hi => ?_⟩
    obtain ⟨cs, g1, g2, g3⟩ := h2 i hi
    refine ⟨cs, g1, fun j u hj => ?_, g3⟩
    have := g2 j u hj
    rwa [Addr.add_lit, ← Nat.add_assoc] at this
/-- The cells of a slice that lies in an element. -/
theorem opens_slice {t e : TypeId} (sz : Nat) (ht : P.underlying t = some (.slice e)) (hc : P.cellsOf e = sz) (hp : 0 < sz) (hE : Opens enc P w base spare held e E) :
    Opens enc P w base spare held t (fun B w cs (l : List α) => ∃ v, cs = [v] ∧ RdL E sz B w v l) := fun fuel cs x h => by
  subst hc
  obtain ⟨v, l, h1, h2⟩ := open_cells ht hp hE h
  exact ⟨l, v, h1, h2⟩
theorem open_list {t e : TypeId} {r : Reach} {b0 : Nat} {v : Value} {d : DataW H} {p : List MemPlace} (sz : Nat) (ht : P.underlying t = some (.slice e)) (hc : P.cellsOf e = sz) (hp : 0 < sz) (hE : Opens enc P w base spare held e E)
    (hv : Value.okWide P w r b0 t v) (h : DataW.Trod enc P w base spare held t v d p) : ∃ l : List α, RdL E sz w.heap.size w v l := by
  obtain ⟨A, n, c, rfl⟩ := Go.WideShapes.okWide_slice ht hv
  obtain ⟨fuel, hf⟩ := h
  subst hc
  obtain ⟨v', l, h1, h2⟩ := open_cells ht hp hE hf
  simp [Value.cells] at h1
  subst h1
  exact ⟨l, h2⟩
end
end Go.Proofs.YthdenkkllpkplaaGreat.Rd
end
section
/- How forests lie in memory. -/
namespace Go.Proofs.YthdenkkllpkplaaGreat.Shapes
open Go Go.RowKit Go.Deep Go.Proofs.YthdenkkllpkplaaGreat.Rd
open Go.Proofs.YthdenkkllpkplaaGreat.FS (Av Nd Fo)
set_option linter.unusedVariables false

def attrE : Elem Av := fun _ _ cs a => cs = [.string a.name, .string a.value] ∧ a.name.size ≤ maxLen ∧ a.value.size ≤ maxLen
theorem attrE_keeps : attrE.Keeps := fun _ _ _ _ _ _ h _ _ => h
def nodeE : Elem Nd := fun B w cs n => ∃ va vk, cs = [.int .i64 n.kind, .string n.name, .string n.text, va, .int .i64 n.parent, vk] ∧ RdL attrE 2 B w va n.attrs ∧ RdL (intE .i64) 1 B w vk n.kids ∧
  n.name.size ≤ maxLen ∧ n.text.size ≤ maxLen ∧ (Lit.int .i64 n.kind).wf = true ∧ (Lit.int .i64 n.parent).wf = true
theorem nodeE_keeps : nodeE.Keeps := fun B B' w w' cs n ⟨va, vk, h1, h2, h3, h4⟩ hb hB => ⟨va, vk, h1, h2.keep attrE_keeps hb hB, h3.keep (intE_keeps _) hb hB, h4⟩
/-- v reads as the forest f. -/
abbrev RdF := RdL nodeE 6

section
variable {H : Type} {enc : TypeId × Value → H} {P : Program} {w : World} {base : Nat} {spare : Nat → Bool} {held : Bool}
theorem opens_attr {e : TypeId} {f0 f1 : Field} (hs : P.underlying e = some (.struct #[f0, f1])) (hone : oneCellFields P #[f0, f1] = true) (hC : P.cellsOf e = 2) (h0 : P.underlying f0.type = some .string) (h1 : P.underlying f1.type = some .string) :
    Opens enc P w base spare held e attrE := fun fuel cs x h => by
  obtain ⟨xs, n, _, hx, hlc, hlen, hg⟩ := DataW.trod_struct hs h
  rw [hC] at hlc
  match cs, hlc with
  | [c0, c1], _ =>
    obtain ⟨o0, k0⟩ := hone_of hone 0 f0 rfl
    obtain ⟨o1, k1⟩ := hone_of hone 1 f1 rfl
    match xs, hlen with
    | [y0, y1], _ =>
      have g0 := hg 0 f0 rfl
      have g1 := hg 1 f1 rfl
      simp [o0, k0] at g0
      simp [o1, k1] at g1
      obtain ⟨s0, e0, _, m0⟩ := DataW.trod_string h0 g0
      obtain ⟨s1, e1, _, m1⟩ := DataW.trod_string h1 g1
      simp at e0 e1
      exact ⟨⟨s0, s1⟩, by rw [e0, e1], m0, m1⟩
theorem opens_node {e ea ek : TypeId} {f0 f1 f2 f3 f4 f5 : Field} (hs : P.underlying e = some (.struct #[f0, f1, f2, f3, f4, f5])) (hone : oneCellFields P #[f0, f1, f2, f3, f4, f5] = true) (hC : P.cellsOf e = 6)
    (h0 : P.underlying f0.type = some (.int .i64)) (h1 : P.underlying f1.type = some .string) (h2 : P.underlying f2.type = some .string) (h3 : P.underlying f3.type = some (.slice ea)) (h4 : P.underlying f4.type = some (.int .i64)) (h5 : P.underlying f5.type = some (.slice ek))
    (hea : P.cellsOf ea = 2) (hoa : Opens enc P w base spare held ea attrE) (hek : P.cellsOf ek = 1) (hki : P.underlying ek = some (.int .i64)) :
    Opens enc P w base spare held e nodeE := fun fuel cs x h => by
  obtain ⟨xs, n, _, hx, hlc, hlen, hg⟩ := DataW.trod_struct hs h
  rw [hC] at hlc
  match cs, hlc with
  | [c0, c1, c2, c3, c4, c5], _ =>
    obtain ⟨o0, k0⟩ := hone_of hone 0 f0 rfl
    obtain ⟨o1, k1⟩ := hone_of hone 1 f1 rfl
    obtain ⟨o2, k2⟩ := hone_of hone 2 f2 rfl
    obtain ⟨o3, k3⟩ := hone_of hone 3 f3 rfl
    obtain ⟨o4, k4⟩ := hone_of hone 4 f4 rfl
    obtain ⟨o5, k5⟩ := hone_of hone 5 f5 rfl
    match xs, hlen with
    | [y0, y1, y2, y3, y4, y5], _ =>
      have g0 := hg 0 f0 rfl
      have g1 := hg 1 f1 rfl
      have g2 := hg 2 f2 rfl
      have g3 := hg 3 f3 rfl
      have g4 := hg 4 f4 rfl
      have g5 := hg 5 f5 rfl
      simp [o0, k0] at g0
      simp [o1, k1] at g1
      simp [o2, k2] at g2
      simp [o3, k3] at g3
      simp [o4, k4] at g4
      simp [o5, k5] at g5
      obtain ⟨z0, e0, _, m0⟩ := DataW.trod_int h0 g0
      obtain ⟨z1, e1, _, m1⟩ := DataW.trod_string h1 g1
      obtain ⟨z2, e2, _, m2⟩ := DataW.trod_string h2 g2
      obtain ⟨l3, v3, e3, m3⟩ := opens_slice 2 h3 hea (by omega) hoa _ _ _ g3
      obtain ⟨z4, e4, _, m4⟩ := DataW.trod_int h4 g4
      obtain ⟨l5, v5, e5, m5⟩ := opens_slice 1 h5 hek (by omega) (opens_int hki) _ _ _ g5
      simp at e0 e1 e2 e3 e4 e5
      exact ⟨⟨z0, z1, z2, l3, z4, l5⟩, v3, v5, by rw [e0, e1, e2, e3, e4, e5], m3, m5, m1, m2, m0, m4⟩
theorem opens_forest_Node {enc : TypeId × Value → H} {w : World} : Opens enc Tryz.prog w base spare held 55 nodeE :=
  opens_node Tryz.underlying55 (by kernel_rfl) (by kernel_rfl) Tryz.underlying3 Tryz.underlying9 Tryz.underlying9 Tryz.underlying52 Tryz.underlying3 Tryz.underlying53 (by kernel_rfl)
    (opens_attr Tryz.underlying59 (by kernel_rfl) (by kernel_rfl) Tryz.underlying9 Tryz.underlying9) (by kernel_rfl) Tryz.underlying3
end
end Go.Proofs.YthdenkkllpkplaaGreat.Shapes
end
section
/- The kit's library contracts, laid at this program in plain words (wip/shelf.py). -/
namespace Go.Proofs
open Go.Shelf
def Tryz.lays119_ren : Go.Shelf.Ren := ⟨fun | 119 => 222 | n => n, fun | 21 => 21 | 4 => 4 | n => n, fun | n => n⟩
theorem Tryz.lays119 : Go.Proofs.Lays.n119 Tryz.prog Tryz.lays119_ren := {
  mixed := by kernel_rfl
  f119 := Tryz.func222.trans (congrArg some (by kernel_rfl))
  t4 := Tryz.underlying4
  a4 := Tryz.isAgg4
  z4 := Tryz.sizeOf4
  v4 := Tryz.zeroValue4
  t21 := Tryz.underlying21
  a21 := Tryz.isAgg21
  z21 := Tryz.sizeOf21
  v21 := Tryz.zeroValue21 }
theorem Tryz.utf8_ValidRune (r : Int) (w : World) :
    Calls Tryz.prog 222 #[.int .i32 r] w fun e w' => e = .returned (.bool (Lib.validRune r)) ∧ w' = w := Any.utf8_ValidRune Tryz.lays119 r w
def Tryz.lays137_ren : Go.Shelf.Ren := ⟨fun | 137 => 179 | 217 => 197 | 266 => 211 | n => n, fun | 9 => 9 | 5 => 5 | 3 => 3 | n => n, fun | n => n⟩
theorem Tryz.lays137 : Go.Proofs.Lays.n137 Tryz.prog Tryz.lays137_ren := {
  mixed := by kernel_rfl
  f137 := Tryz.func179.trans (congrArg some (by kernel_rfl))
  f217 := Tryz.func197.trans (congrArg some (by kernel_rfl))
  f266 := Tryz.func211.trans (congrArg some (by kernel_rfl))
  t3 := Tryz.underlying3
  a3 := Tryz.isAgg3
  z3 := Tryz.sizeOf3
  v3 := Tryz.zeroValue3
  t5 := Tryz.underlying5
  a5 := Tryz.isAgg5
  z5 := Tryz.sizeOf5
  v5 := Tryz.zeroValue5
  t9 := Tryz.underlying9
  a9 := Tryz.isAgg9
  z9 := Tryz.sizeOf9
  v9 := Tryz.zeroValue9 }
open Go.RowKit in
theorem Tryz.strings_IndexByte (s : ByteArray) (c : Int) (w : World) :
    Calls Tryz.prog 179 #[.string s, .int .u8 c] w fun e w' => e = .returned (.int .i64 (Lib.indexByte s.data.toList c.toNat.toUInt8)) ∧ w' = w := Any.strings_IndexByte Tryz.lays137 s c w
def Tryz.lays152_ren : Go.Shelf.Ren := ⟨fun | 152 => 212 | 137 => 179 | 119 => 222 | 224 => 223 | 225 => 224 | 217 => 197 | 266 => 211 | n => n, fun | 9 => 9 | 21 => 21 | 3 => 3 | 4 => 4 | 5 => 5 | 0 => 0 | 46 => 293 | n => n, fun | n => n⟩
theorem Tryz.lays152 : Go.Proofs.Lays.n152 Tryz.prog Tryz.lays152_ren := {
  mixed := by kernel_rfl
  f119 := Tryz.func222.trans (congrArg some (by kernel_rfl))
  f137 := Tryz.func179.trans (congrArg some (by kernel_rfl))
  f152 := Tryz.func212.trans (congrArg some (by kernel_rfl))
  f217 := Tryz.func197.trans (congrArg some (by kernel_rfl))
  f224 := Tryz.func223.trans (congrArg some (by kernel_rfl))
  f225 := Tryz.func224.trans (congrArg some (by kernel_rfl))
  f266 := Tryz.func211.trans (congrArg some (by kernel_rfl))
  t0 := Tryz.underlying0
  a0 := Tryz.isAgg0
  z0 := Tryz.sizeOf0
  v0 := Tryz.zeroValue0
  t3 := Tryz.underlying3
  a3 := Tryz.isAgg3
  z3 := Tryz.sizeOf3
  v3 := Tryz.zeroValue3
  t4 := Tryz.underlying4
  a4 := Tryz.isAgg4
  z4 := Tryz.sizeOf4
  v4 := Tryz.zeroValue4
  t5 := Tryz.underlying5
  a5 := Tryz.isAgg5
  z5 := Tryz.sizeOf5
  v5 := Tryz.zeroValue5
  t9 := Tryz.underlying9
  a9 := Tryz.isAgg9
  z9 := Tryz.sizeOf9
  v9 := Tryz.zeroValue9
  t21 := Tryz.underlying21
  a21 := Tryz.isAgg21
  z21 := Tryz.sizeOf21
  v21 := Tryz.zeroValue21
  t46 := Tryz.underlying293
  a46 := Tryz.isAgg293
  z46 := Tryz.sizeOf293
  v46 := Tryz.zeroValue293 }
open Go.RowKit Go.Lib in
theorem Tryz.strings_IndexRune_ascii (s : ByteArray) (r : Int) (w : World) (h0 : 0 ≤ r) (h1 : r < 128) :
    Calls Tryz.prog 212 #[.string s, .int .i32 r] w fun e w' => e = .returned (.int .i64 (Lib.indexByte s.data.toList r.toNat.toUInt8)) ∧ w' = w := Any.strings_IndexRune_ascii Tryz.lays152 s r w h0 h1
def Tryz.lays226_ren : Go.Shelf.Ren := ⟨fun | 226 => 213 | n => n, fun | 3 => 3 | 4 => 4 | n => n, fun | n => n⟩
theorem Tryz.lays226 : Go.Proofs.Lays.n226 Tryz.prog Tryz.lays226_ren := {
  mixed := by kernel_rfl
  f226 := Tryz.func213.trans (congrArg some (by kernel_rfl))
  t3 := Tryz.underlying3
  a3 := Tryz.isAgg3
  z3 := Tryz.sizeOf3
  v3 := Tryz.zeroValue3
  t4 := Tryz.underlying4
  a4 := Tryz.isAgg4
  z4 := Tryz.sizeOf4
  v4 := Tryz.zeroValue4 }
open Go.RowKit Go.Lib in
theorem Tryz.strings_shouldUseASCIISet (n : Int) (w : World) :
    Calls Tryz.prog 213 #[.int .i64 n] w fun e w' => e = .returned (.bool (decide (8 < n))) ∧ w' = w := Any.strings_shouldUseASCIISet Tryz.lays226 n w
def Tryz.lays153_ren : Go.Shelf.Ren := ⟨fun | 153 => 199 | 152 => 212 | 226 => 213 | 227 => 214 | 228 => 215 | 137 => 179 | 119 => 222 | 224 => 223 | 225 => 224 | 217 => 197 | 266 => 211 | n => n, fun | 9 => 9 | 3 => 3 | 4 => 4 | 5 => 5 | 21 => 21 | 117 => 275 | 116 => 274 | 0 => 0 | 46 => 293 | 124 => 294 | n => n, fun | n => n⟩
theorem Tryz.lays153 : Go.Proofs.Lays.n153 Tryz.prog Tryz.lays153_ren := {
  mixed := by kernel_rfl
  f119 := Tryz.func222.trans (congrArg some (by kernel_rfl))
  f137 := Tryz.func179.trans (congrArg some (by kernel_rfl))
  f152 := Tryz.func212.trans (congrArg some (by kernel_rfl))
  f153 := Tryz.func199.trans (congrArg some (by kernel_rfl))
  f217 := Tryz.func197.trans (congrArg some (by kernel_rfl))
  f224 := Tryz.func223.trans (congrArg some (by kernel_rfl))
  f225 := Tryz.func224.trans (congrArg some (by kernel_rfl))
  f226 := Tryz.func213.trans (congrArg some (by kernel_rfl))
  f227 := Tryz.func214.trans (congrArg some (by kernel_rfl))
  f228 := Tryz.func215.trans (congrArg some (by kernel_rfl))
  f266 := Tryz.func211.trans (congrArg some (by kernel_rfl))
  t0 := Tryz.underlying0
  a0 := Tryz.isAgg0
  z0 := Tryz.sizeOf0
  v0 := Tryz.zeroValue0
  t3 := Tryz.underlying3
  a3 := Tryz.isAgg3
  z3 := Tryz.sizeOf3
  v3 := Tryz.zeroValue3
  t4 := Tryz.underlying4
  a4 := Tryz.isAgg4
  z4 := Tryz.sizeOf4
  v4 := Tryz.zeroValue4
  t5 := Tryz.underlying5
  a5 := Tryz.isAgg5
  z5 := Tryz.sizeOf5
  v5 := Tryz.zeroValue5
  t9 := Tryz.underlying9
  a9 := Tryz.isAgg9
  z9 := Tryz.sizeOf9
  v9 := Tryz.zeroValue9
  t21 := Tryz.underlying21
  a21 := Tryz.isAgg21
  z21 := Tryz.sizeOf21
  v21 := Tryz.zeroValue21
  t46 := Tryz.underlying293
  a46 := Tryz.isAgg293
  z46 := Tryz.sizeOf293
  v46 := Tryz.zeroValue293
  t116 := Tryz.underlying274
  a116 := Tryz.isAgg274
  z116 := Tryz.sizeOf274
  t117 := Tryz.underlying275
  a117 := Tryz.isAgg275
  z117 := Tryz.sizeOf275
  v117 := Tryz.zeroValue275
  t124 := Tryz.underlying294
  a124 := Tryz.isAgg294
  z124 := Tryz.sizeOf294
  v124 := Tryz.zeroValue294 }
open Go.RowKit Go.Lib in
theorem Tryz.strings_IndexAny_long (hv116 : ∀ w, (zeroValue 274).run Tryz.prog w = .ok (.agg (Array.replicate 256 (.bool false))) w) (s chars : ByteArray) (w : World) (h2 : 2 ≤ chars.size) (h8 : 8 < s.size) (hs : s.size < 4294967281) (hcs : chars.size < 4294967281) (hascii : ∀ (j : Nat) b, chars.data.toList[j]? = some b → b.toNat < 128) :
    Calls Tryz.prog 199 #[.string s, .string chars] w fun e w' => e = .returned (.int .i64 (Lib.indexAny s.data.toList chars.data.toList)) ∧ w' = ((w.alloc (.cells (Lib.setCells chars.data.toList) 274)).alloc (.cells (Lib.setCells chars.data.toList) 274)) := Any.strings_IndexAny_long Tryz.lays153 hv116 (by kernel_rfl) s chars w h2 h8 hs hcs hascii
end Go.Proofs
end
section
/- The contracts of the package word's plain functions: letter, Text, Name, Fold. -/
namespace Go.Proofs.YthdenkkllpkplaaGreat.Word
open Go Go.RowKit Go.Proofs.YthdenkkllpkplaaGreat.WS
set_option linter.unusedVariables false
set_option linter.unusedSimpArgs false

theorem or32 (b : UInt8) : Go.bits .or .u8 (b.toNat : Int) 32 = ((b ||| 32).toNat : Int) := by
  have key : ∀ n : Fin 256, Go.bits .or .u8 (n.val : Int) 32 = (((UInt8.ofNat n.val) ||| 32).toNat : Int) := by decide +kernel
  have := key ⟨b.toNat, b.toNat_lt⟩
  simpa using this
theorem letter32 (b : UInt8) : letterB b = (decide (97 ≤ ((b.toNat ||| 32 : Nat) : Int)) && decide (((b.toNat ||| 32 : Nat) : Int) ≤ 122)) := by
  have key : ∀ n : Fin 256, letterB (UInt8.ofNat n.val) = (decide (97 ≤ (((UInt8.ofNat n.val).toNat ||| 32 : Nat) : Int)) && decide ((((UInt8.ofNat n.val).toNat ||| 32 : Nat) : Int) ≤ 122)) := by decide +kernel
  have := key ⟨b.toNat, b.toNat_lt⟩
  simpa using this
theorem ret_bool {a b : Bool} (h : a = b) : Ending.returned (.bool a) = .returned (.bool b) := by rw [h]
theorem letter_calls (b : UInt8) (w : World) : Calls Tryz.prog 178 #[.int .u8 (b.toNat : Int)] w fun e w' => e = .returned (.bool (letterB b)) ∧ w = w' := by
  have hb := or32 b
  go_enter Tryz.func178, Tryz.ntmps178
  go_wp2
  · have h : (97 : Int) ≤ ((b.toNat ||| 32 : Nat) : Int) := by assumption
    go_ret
    exact ⟨ret_bool (by rw [letter32, decide_eq_true h]; rfl), rfl⟩
  · have h : ((b.toNat ||| 32 : Nat) : Int) < 97 := by assumption
    go_ret
    exact ⟨ret_bool (by rw [letter32, decide_eq_false (by omega)]; rfl), rfl⟩
theorem Text_calls (s : ByteArray) (w : World) : Calls Tryz.prog 137 #[.string s] w fun e w' => e = .returned (.bool (textB s.data.toList)) ∧ w = w' := by
  go_enter Tryz.func137, Tryz.ntmps137
  go_wp2
  go_ret
  exact ⟨ret_bool (by unfold textB; simp; omega), rfl⟩
theorem mark_index (b : UInt8) (h : letterB b = false) : decide (Lib.indexByte [48, 49, 50, 51, 52, 53, 54, 55, 56, 57, 45, 95] b < 0) = !markB b := by
  have key : ∀ n : Fin 256, letterB (UInt8.ofNat n.val) = false → decide (Lib.indexByte [48, 49, 50, 51, 52, 53, 54, 55, 56, 57, 45, 95] (UInt8.ofNat n.val) < 0) = !markB (UInt8.ofNat n.val) := by decide +kernel
  have := key ⟨b.toNat, b.toNat_lt⟩
  simpa using this (by simpa using h)
theorem name_first {s : ByteArray} (h : 0 < s.size) (hl : letterB s[0] = false) : nameB s.data.toList = false := by
  have e : s.data.toList.head? = some s[0] := by
    rw [List.head?_eq_getElem?, List.getElem?_eq_getElem (by simpa using h)]; rfl
  unfold nameB
  rw [e]; simp [hl]
theorem name_all {s : ByteArray} (h : 0 < s.size) (h20 : s.size ≤ 20) (hl : letterB s[0] = true) (hm : ∀ j (hj : j < s.size), markB s[j] = true) : nameB s.data.toList = true := by
  have e : s.data.toList.head? = some s[0] := by
    rw [List.head?_eq_getElem?, List.getElem?_eq_getElem (by simpa using h)]; rfl
  have ha : s.data.toList.all markB = true := List.all_eq_true.2 fun x hx => by
    obtain ⟨j, hj, rfl⟩ := List.mem_iff_getElem.1 hx
    exact hm j (by simpa using hj)
  unfold nameB
  rw [e, ha, decide_eq_true (show 1 ≤ s.data.toList.length by simp; omega), decide_eq_true (by simpa using h20)]
  simp [hl]
theorem name_not {s : ByteArray} {j : Nat} (hj : j < s.size) (hm : markB s[j] = false) : nameB s.data.toList = false := by
  unfold nameB
  rw [Bool.and_eq_false_iff]
  right
  rw [List.all_eq_false]
  exact ⟨s[j], by rw [List.mem_iff_getElem]; exact ⟨j, by simpa using hj, by simp; rfl⟩, by simp [hm]⟩
theorem Name_calls (s : ByteArray) (w : World) : Calls Tryz.prog 138 #[.string s] w fun e w' => e = .returned (.bool (nameB s.data.toList)) ∧ w = w' := by
  by_cases h0 : s.size = 0
  · have hl : s.data.toList = [] := by apply List.eq_nil_of_length_eq_zero; simpa using h0
    have he : s.toList.isEmpty = true := by simp [Lib.toList_data, hl]
    have H := Lib.hid hl; clear hl h0
    go_enter Tryz.func138, Tryz.ntmps138
    go_wp2
    go_ret
    exact ⟨ret_bool (by rw [H.out]; rfl), rfl⟩
  · have he : s.toList.isEmpty = false := by simp [Lib.toList_data, List.isEmpty_eq_false_iff]; intro h; apply h0; simp [← ByteArray.size_data, h]
    have hpos : 0 < s.size := by omega
    by_cases h20 : 20 < s.size
    · go_enter Tryz.func138, Tryz.ntmps138
      go_wp2
      go_ret
      exact ⟨ret_bool (by unfold nameB; simp; intros; omega), rfl⟩
    · cases hl0 : letterB s[0] with
      | false =>
        have H := Lib.hid hl0
        go_enter Tryz.func138, Tryz.ntmps138
        go_wp2_with (go_at_call 178; refine (letter_calls _ _).mono ?_; rintro e w' ⟨rfl, rfl⟩; rw [hl0])
        go_ret
        exact ⟨ret_bool (name_first hpos H.out).symm, rfl⟩
      | true =>
        have H := Lib.hid hl0
        go_enter Tryz.func138, Tryz.ntmps138
        go_wp2_with (go_at_call 178; refine (letter_calls _ _).mono ?_; rintro e w' ⟨rfl, rfl⟩; rw [hl0])
        go_loop [20] (fun i => ∃ k : Nat, k ≤ s.size ∧ i = .int .i64 k ∧ Hid (∀ j (hj : j < s.size), j < k → markB s[j] = true)) (fun i => s.size - (intOf i).toNat)
        case atStart => exact ⟨0, Nat.zero_le _, rfl, fun j _ h => absurd h (Nat.not_lt_zero _)⟩
        case round =>
          obtain ⟨k, hk, rfl, hm⟩ := hrel
          by_cases hlt : k < s.size
          · cases hl1 : letterB s[k] with
            | true =>
              go_wp2_with (go_at_call 178; refine (letter_calls _ _).mono ?_; rintro e w' ⟨rfl, rfl⟩; rw [hl1])
              go_round
              case rel => exact ⟨k + 1, by omega, by go_num, fun j hj h => by
                rcases Nat.lt_or_ge j k with h1 | h1
                · exact hm.out j hj h1
                · obtain rfl : j = k := by omega
                  unfold markB; rw [hl1]; rfl⟩
              case measure => simp [intOf]; omega
            | false =>
              have hix := mark_index s[k] hl1
              cases hmk : markB s[k] with
              | true =>
                rw [hmk] at hix
                have Hmk := Lib.hid hmk; clear hmk
                go_wp2_with (first
                  | (go_at_call 178; refine (letter_calls _ _).mono ?_; rintro e w' ⟨rfl, rfl⟩; rw [hl1])
                  | (go_at_call 179; refine (Tryz.strings_IndexByte _ _ _).mono ?_; rintro e w' ⟨rfl, rfl⟩))
                go_round
                case rel => exact ⟨k + 1, by omega, by go_num, fun j hj h => by
                  rcases Nat.lt_or_ge j k with h1 | h1
                  · exact hm.out j hj h1
                  · obtain rfl : j = k := by omega
                    exact Hmk.out⟩
                case measure => simp [intOf]; omega
              | false =>
                rw [hmk] at hix
                have Hmk := Lib.hid hmk; clear hmk
                go_wp2_with (first
                  | (go_at_call 178; refine (letter_calls _ _).mono ?_; rintro e w' ⟨rfl, rfl⟩; rw [hl1])
                  | (go_at_call 179; refine (Tryz.strings_IndexByte _ _ _).mono ?_; rintro e w' ⟨rfl, rfl⟩))
                go_ret
                exact ⟨ret_bool (name_not hlt Hmk.out).symm, rfl⟩
          · go_wp2
            go_ret
            exact ⟨ret_bool (name_all hpos (by omega) H.out (fun j hj => hm.out j hj (by omega))).symm, rfl⟩
theorem foldB_or (b : UInt8) (h1 : 65 ≤ (b.toNat : Int)) (h2 : (b.toNat : Int) ≤ 90) : Go.bits .or .u8 (b.toNat : Int) 32 = ((foldB b).toNat : Int) := by
  have hb : foldB b = b ||| 32 := by unfold foldB; rw [if_pos ⟨by omega, by omega⟩]
  rw [hb]
  have key : ∀ n : Fin 256, 65 ≤ n.val → n.val ≤ 90 → Go.bits .or .u8 (n.val : Int) 32 = (((UInt8.ofNat n.val) ||| 32).toNat : Int) := by decide +kernel
  have := key ⟨b.toNat, b.toNat_lt⟩ (by show 65 ≤ b.toNat; omega) (by show b.toNat ≤ 90; omega)
  simpa using this
theorem foldB_same (b : UInt8) (h : ¬ (65 ≤ (b.toNat : Int) ∧ (b.toNat : Int) ≤ 90)) : foldB b = b := by unfold foldB; rw [if_neg (by omega)]
def FoldRow (s : ByteArray) (b k : Nat) (wr : World) : Prop :=
  ∃ C lo, wr.heap[b]? = some (.cells C 5 (lo, lo + 1)) ∧ s.size ≤ lo ∧ ∀ j (hj : j < s.size), C[j]? = some (.int .u8 ((if j < k then foldB s.data[j] else s.data[j]).toNat : Int))
theorem FoldRow.cell {s : ByteArray} {b k : Nat} {wr : World} (h : FoldRow s b k wr) (hk : k < s.size) : wr.cell? ⟨b, k, none⟩ = some (.int .u8 (s.data[k]).toNat) := by
  obtain ⟨C, lo, hb, hl, hc⟩ := h
  simp [World.cell?, hb, hc k hk]
theorem FoldRow.frozen {s : ByteArray} {b k : Nat} {wr : World} (h : FoldRow s b k wr) (hk : k < s.size) : wr.frozen? ⟨b, k, none⟩ = false := by
  obtain ⟨C, lo, hb, hl, hc⟩ := h
  simp [World.frozen?, hb]; omega
theorem FoldRow.step {s : ByteArray} {b k : Nat} {wr : World} (h : FoldRow s b k wr) (hk : k < s.size) (v : Int) (hv : v = (foldB s.data[k]).toNat) : FoldRow s b (k + 1) (wr.setCell ⟨b, k, none⟩ (.int .u8 v)) := by
  subst hv
  obtain ⟨C, lo, hb, hl, hc⟩ := h
  refine ⟨C.setIfInBounds k (.int .u8 (foldB s.data[k]).toNat), lo, ?_, hl, fun j hj => ?_⟩
  · simp only [World.setCell, Array.getElem?_modify, hb]; simp
  · have hk' := (Array.getElem?_eq_some_iff.1 (hc k hk)).1
    by_cases e : k = j
    · subst e; simp [Array.getElem?_setIfInBounds, hk']
    · rw [Array.getElem?_setIfInBounds_ne e, hc j hj]
      by_cases h1 : j < k
      · rw [if_pos h1, if_pos (show j < k + 1 by omega)]
      · rw [if_neg h1, if_neg (show ¬ j < k + 1 by omega)]
theorem FoldRow.same {s : ByteArray} {b k : Nat} {wr : World} (h : FoldRow s b k wr) (hk : k < s.size) (e : foldB s.data[k] = s.data[k]) : FoldRow s b (k + 1) wr := by
  obtain ⟨C, lo, hb, hl, hc⟩ := h
  refine ⟨C, lo, hb, hl, fun j hj => ?_⟩
  rw [hc j hj]
  by_cases h1 : j = k
  · subst h1; rw [if_neg (show ¬ j < j by omega), if_pos (show j < j + 1 by omega), e]
  · by_cases h2 : j < k
    · rw [if_pos h2, if_pos (show j < k + 1 by omega)]
    · rw [if_neg h2, if_neg (show ¬ j < k + 1 by omega)]
theorem FoldRow.back {s : ByteArray} {b : Nat} {wr : World} (h : FoldRow s b s.size wr) (P : Program) (src dst e : TypeId) (cap : Nat) (hs : P.underlying src = some (.slice e)) (he : P.underlying e = some (.int .u8)) (hd : P.underlying dst = some .string) :
    (convert src dst (.slice (some ⟨b, 0, none⟩) s.size cap)).run P wr = .ok (.string ⟨s.data.map foldB⟩) wr := by
  obtain ⟨C, lo, hb, hl, hc⟩ := h
  have := run_convert_bytes_back (P := P) wr src dst e ⟨b, 0, none⟩ cap (s.data.map foldB).toList hs he hd (fun j hj => by
    have hj' : j < s.size := by simpa using hj
    have ha : (⟨b, 0, none⟩ : Addr).add j = ⟨b, j, none⟩ := by unfold Addr.add; split <;> simp_all
    rw [ha]; simp [World.cell?, hb, hc j hj', hj'])
  have e1 : (s.data.map foldB).toList.toArray = s.data.map foldB := Array.toArray_toList
  have e2 : (s.data.map foldB).toList.length = s.size := by simp
  rw [e1, e2] at this
  exact this
set_option maxHeartbeats 800000 in
theorem Fold_calls (a0 : ByteArray) (hs : a0.size < 4294967281) (w : World) : Calls Tryz.prog 148 #[.string a0] w fun e w' => e = .returned (.string ⟨a0.data.map foldB⟩) ∧ Below w.heap.size w w' := by
  have hcv := fun (W : World) => run_bytes_of_string (P := Tryz.prog) W 9 162 5 a0 Tryz.underlying9 Tryz.underlying162 Tryz.underlying5
  go_enter Tryz.func148, Tryz.ntmps148
  go_wp2
  clear hcv
  go_loopw [10] (fun i wr => ∃ k : Nat, k ≤ a0.size ∧ i = .int .i64 k ∧ FoldRow a0 w.heap.size k wr ∧ Below w.heap.size w wr) (fun i _ => a0.size - (intOf i).toNat)
  case atStart => 
    refine ⟨0, Nat.zero_le _, rfl, ⟨bytesRow a0 (grownCap w a0.size 0 5), (bytesRow a0 (grownCap w a0.size 0 5)).size, ?_, ?_, fun j hj => ?_⟩, ((Below.refl _ w).alloc (Nat.le_refl _) _).drew⟩
    · simp [World.alloc, World.drew, -World.alloc_eq, -World.drew_eq]
    · simp only [bytesRow, Array.size_append, Array.size_map, Array.size_replicate]; show a0.data.size ≤ _; omega
    · have : j < a0.data.size := hj
      simp only [bytesRow]
      rw [Array.getElem?_append_left (by simpa using this)]
      rw [Array.getElem?_map, Array.getElem?_eq_getElem this]; simp
  case round =>
    obtain ⟨k, hk, rfl, hr, hb⟩ := hrel
    by_cases hlt : k < a0.size
    · have hc := hr.cell hlt
      have hf := hr.frozen hlt
      have H := Lib.hid hr; clear hr
      go_wp2
      all_goals go_roundw
      case measure => simp [intOf]; omega
      case rel h1 h2 => exact ⟨k + 1, by omega, by go_num, H.out.step hlt _ (foldB_or _ h1 h2), hb.setCell (Nat.le_refl _) _⟩
      case measure => simp [intOf]; omega
      case rel h1 h2 => exact ⟨k + 1, by omega, by go_num, H.out.same hlt (foldB_same _ (by omega)), hb⟩
      case measure => simp [intOf]; omega
      case rel h1 => exact ⟨k + 1, by omega, by go_num, H.out.same hlt (foldB_same _ (by omega)), hb⟩
    · obtain rfl : k = a0.size := by omega
      have hbk := hr.back Tryz.prog 162 9 5 (grownCap w a0.size 0 5) Tryz.underlying162 Tryz.underlying5 Tryz.underlying9
      go_wp2
      go_ret
      exact ⟨rfl, hb⟩
end Go.Proofs.YthdenkkllpkplaaGreat.Word
end
