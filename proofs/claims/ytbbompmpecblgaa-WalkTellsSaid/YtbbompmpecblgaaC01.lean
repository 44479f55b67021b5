/- Joined by a program: Seq, SeqN, WSpec, ShelfA. -/
import Derived.RangeFuncNested
import Derived.RangeFuncLeaves
import Derived.RangeFuncBound
import Derived.RangeFuncCalls
import Derived.Deep.Draws
import Derived.Laws.BytesArg
import Derived.Shelf.Small.Utf8
import Derived.Shelf.Small.Strs
import Derived.Shelf.Strings.Runes
import Derived.Shelf.Strings.IndexAny
import Derived.Shelf.Strings.AsciiSet
import Derived.Shelf.Strings.IndexAnyAll
import Derived.Test.YtbbompmpecblgaaProg
section
/- A law for 'for x := range seq { .. }' where the iterator keeps state of its own in memory: the loop's side speaks of a set X of blocks, the iterator's of sets Y (written) and Z (read). General: no program. -/
namespace Go.Proofs.Ytbbompmpecblgaa.Seq
open Go Go.RowKit
set_option linter.unusedVariables false

/-- W' is W but for the blocks of Y and new ones. -/
structure Off (Y : Nat → Prop) (W W' : World) : Prop where
  os : W'.os = W.os
  tape : W'.tape = W.tape
  output : W'.output = W.output
  size : W.heap.size ≤ W'.heap.size
  block : ∀ b, b < W.heap.size → ¬ Y b → W'.heap[b]? = W.heap[b]?

theorem Off.refl (Y : Nat → Prop) (W : World) : Off Y W W := ⟨rfl, rfl, rfl, Nat.le_refl _, fun _ _ _ => rfl⟩
theorem Off.mono {Y Y' : Nat → Prop} {A B : World} (h : Off Y A B) (hy : ∀ b, b < A.heap.size → Y b → Y' b) : Off Y' A B :=
  ⟨h.os, h.tape, h.output, h.size, fun b hb hn => h.block b hb (fun y => hn (hy b hb y))⟩
theorem Off.trans {Y : Nat → Prop} {A B C : World} (h : Off Y A B) (k : Off Y B C) : Off Y A C :=
  ⟨k.os.trans h.os, k.tape.trans h.tape, k.output.trans h.output, Nat.le_trans h.size k.size, fun b hb hn => (k.block b (Nat.lt_of_lt_of_le hb h.size) hn).trans (h.block b hb hn)⟩
/-- The second step may turn what is new behind the first. -/
theorem Off.trans' {Y Y' : Nat → Prop} {A B C : World} (h : Off Y A B) (k : Off Y' B C) (hy : ∀ b, Y' b → Y b ∨ A.heap.size ≤ b) : Off Y A C :=
  ⟨k.os.trans h.os, k.tape.trans h.tape, k.output.trans h.output, Nat.le_trans h.size k.size, fun b hb hn => (k.block b (Nat.lt_of_lt_of_le hb h.size) (fun y => by rcases hy b y with y | y; exact hn y; omega)).trans (h.block b hb hn)⟩
theorem Off.alloc (Y : Nat → Prop) (W : World) (o : Obj) : Off Y W (W.alloc o) := ⟨rfl, rfl, rfl, by simp, fun b hb _ => Below.heap_alloc _ _ _ hb⟩
theorem Off.drew (Y : Nat → Prop) (W : World) : Off Y W W.drew := ⟨rfl, rfl, rfl, Nat.le_refl _, fun b hb _ => rfl⟩
theorem Off.drewN (Y : Nat → Prop) (W : World) (n : Nat) : Off Y W (W.drewN n) := ⟨rfl, rfl, rfl, Nat.le_refl _, fun b hb _ => rfl⟩
theorem Off.setCell {Y : Nat → Prop} (W : World) (p : Addr) (u : Value) (hp : Y p.block) : Off Y W (W.setCell p u) :=
  ⟨rfl, rfl, rfl, by simp [World.setCell], fun b hb hn => Below.heap_setCell _ _ _ _ (fun e => hn (e ▸ hp))⟩
theorem Off.putObj {Y : Nat → Prop} (W : World) (r : Nat) (o : Obj) (hp : Y r) : Off Y W (W.putObj r o) :=
  ⟨rfl, rfl, rfl, by simp, fun b hb hn => World.putObj_heap_other (fun e => hn (e ▸ hp))⟩
theorem Off.grown {Y : Nat → Prop} {W W' : World} {row : Option Nat} (h : W.grownBy W' row) (hr : ∀ r, row = some r → Y r) : Off Y W W' :=
  ⟨h.os, h.tape, h.output, h.size, fun b hb hn => h.block b hb (fun e => hn (hr b e.symm))⟩
theorem Off.below {Y : Nat → Prop} {B : Nat} {W W' : World} (h : Below B W W') (hy : ∀ b, b < W.heap.size → B ≤ b → Y b) : Off Y W W' :=
  ⟨h.os, h.tape, h.output, h.size, fun b hb hn => h.block b (by rcases Nat.lt_or_ge b B with h1 | h1; exact h1; exact absurd (hy b hb h1) hn)⟩
theorem Off.toBelow {Y : Nat → Prop} {B : Nat} {W W' : World} (h : Off Y W W') (hB : B ≤ W.heap.size) (hy : ∀ b, Y b → B ≤ b) : Below B W W' :=
  ⟨h.os, h.tape, h.output, h.size, fun b hb => h.block b (Nat.lt_of_lt_of_le hb hB) (fun y => by have := hy b y; omega)⟩

theorem lt_heap {W : World} {b : Nat} {o : Obj} (h : W.heap[b]? = some o) : b < W.heap.size := (Array.getElem?_eq_some_iff.1 h).1
theorem Off.keep {Y : Nat → Prop} {W W' : World} (h : Off Y W W') {b : Nat} {o : Obj} (hb : W.heap[b]? = some o) (hn : ¬ Y b) : W'.heap[b]? = some o := (h.block b (lt_heap hb) hn).trans hb
theorem heap_new {w : World} {o : Obj} {b : Nat} (h : b = w.heap.size) : (w.alloc o).heap[b]? = some o := by subst h; exact World.alloc_heap_new w o
theorem heap_old {w : World} {o o' : Obj} {b : Nat} (h : w.heap[b]? = some o') : (w.alloc o).heap[b]? = some o' := (Below.heap_alloc w o b (lt_heap h)).trans h
theorem put_other {W : World} {b D : Nat} {o : Obj} (h : b ≠ D) : (W.putObj D o).heap[b]? = W.heap[b]? := World.putObj_heap_other h
theorem cell_of {W : World} {b : Nat} {v : Value} {t : TypeId} (h : W.heap[b]? = some (.cells #[v] t (0, 0))) : W.cell? ⟨b, 0, none⟩ = some v := by simp [World.cell?, h]
theorem free_of {W : World} {b : Nat} {cs : Array Value} {t : TypeId} (h : W.heap[b]? = some (.cells cs t (0, 0))) (o : Nat) : W.frozen? ⟨b, o, none⟩ = false := by simp [World.frozen?, h]
theorem set_one {W : World} {b : Nat} {v u : Value} {t : TypeId} (h : W.heap[b]? = some (.cells #[v] t (0, 0))) : (W.setCell ⟨b, 0, none⟩ u).heap[b]? = some (.cells #[u] t (0, 0)) := by
  simp only [World.setCell, Array.getElem?_modify, h]; simp
theorem set_other {W : World} {b c : Nat} {o : Nat} {u : Value} (h : b ≠ c) : (W.setCell ⟨c, o, none⟩ u).heap[b]? = W.heap[b]? := Below.heap_setCell _ _ _ _ h
theorem own_keep {w w' : World} {base : Nat} {e : TypeId} {size : Nat} {v : Value} {n : Nat} {xs : List Value} (h : w.ownsRow base e size v n xs) (hs : ∀ g, v.ownBlock = some g → w'.heap[g]? = w.heap[g]?) : w'.ownsRow base e size v n xs := by
  obtain ⟨h1, h2⟩ := h
  refine ⟨h1, ?_⟩
  rcases h2 with h2 | ⟨g, cap, cur, rfl, hb, hh, r⟩
  · exact .inl h2
  · exact .inr ⟨g, cap, cur, rfl, hb, (hs g rfl).trans hh, r⟩
/-- J speaks of the blocks of X alone, which there are. -/
def Foot {ι : Type} (J : ι → (Nat → Prop) → World → Prop) : Prop :=
  (∀ k X W W', J k X W → Off (fun b => ¬ X b) W W' → J k X W') ∧ (∀ k X W b, J k X W → X b → b < W.heap.size)

/-- X may have grown by new blocks. -/
def Grew (X : Nat → Prop) (W : World) (X' : Nat → Prop) : Prop := ∀ b, X' b → X b ∨ W.heap.size ≤ b
theorem Grew.refl (X : Nat → Prop) (W : World) : Grew X W X := fun _ h => .inl h
theorem Grew.trans {X X' X'' : Nat → Prop} {W W' : World} (h : Grew X W X') (k : Grew X' W' X'') (hs : W.heap.size ≤ W'.heap.size) : Grew X W X'' :=
  fun b hb => by rcases k b hb with h1 | h1; exact h b h1; exact .inr (Nat.le_trans hs h1)

/-- What a round answers. -/
def RoundR (X : Nat → Prop) (W : World) (Jt Jf : (Nat → Prop) → World → Prop) (e : Ending) (W' : World) : Prop :=
  ∃ X', Grew X W X' ∧ Off X W W' ∧ ((e = .returned (.bool true) ∧ Jt X' W') ∨ (e = .returned (.bool false) ∧ Jf X' W'))

/-- What an iterator answers. -/
def SeqR (X Y : Nat → Prop) (W : World) (Jd : (Nat → Prop) → World → Prop) (Js : (Nat → Prop) → World → Prop) (e : Ending) (W' : World) : Prop :=
  (∃ v, e = .returned v) ∧ ∃ X', Grew X W X' ∧ Off (fun b => X b ∨ Y b) W W' ∧ (Jd X' W' ∨ Js X' W')

/-- THE ITERATOR's CONTRACT: it hands out encs, one behind the other, unless it is told to stop. -/
def SeqC (P : Program) (gf : Nat) (lb : Array Value) (encs : List Value) (Y Z : Nat → Prop) (Wc : World → Prop) : Prop :=
  ∀ (l : Nat) (J Jx : Nat → (Nat → Prop) → World → Prop) (X : Nat → Prop) (W : World), Wc W → Foot J → Foot Jx → (∀ b, X b → ¬ Y b ∧ ¬ Z b) → J 0 X W →
    (∀ k X W (hk : k < encs.length), J k X W → YieldAt Fence.wide 0 P l #[encs[k]] W (RoundR X W (J (k + 1)) (Jx k))) →
    CallsIn Fence.wide 0 P gf (#[.func (.yield l) #[] #[]] ++ lb) W (SeqR X Y W (J encs.length) (fun X' W' => ∃ k, k < encs.length ∧ Jx k X' W'))

/-- How a round's body may be left. -/
def bodyR (X : Nat → Prop) (W : World) (It : (Nat → Prop) → World → Prop) (Ix : Code → (Nat → Prop) → World → Prop) : Exit → Act → World → Prop
  | .normal, _, W' => ∃ X', Grew X W X' ∧ Off X W W' ∧ It X' W'
  | .ret, _, W' => ∃ X', Grew X W X' ∧ Off X W W' ∧ Ix .ret X' W'
  | .exit id, _, W' => ∃ X', Grew X W X' ∧ Off X W W' ∧ Ix (.exit id) X' W'
  | .goto t, _, W' => ∃ X', Grew X W X' ∧ Off X W W' ∧ Ix (.goto t) X' W'
  | .panic _, _, _ => False
  | .outgrown, _, _ => False

def CollD (D : Nat) : Deferred := { target := .collected D, args := #[] }

/-- THE LOOP. The assignment to the loop's variable is a plain move (a₁ k is the activation behind it). -/
theorem wpIn_range {P : Program} {g : Operand} {pt : Tmp} {assign body : Code} {Q : Exit → Act → World → Prop} {a : Act} {w : World}
    {gf : Nat} {lb : Array Value} (hg : a.eval g = .func (.func gf) #[] lb) (eg : ∀ args w, (callFunc gf args).run P w = .ok (.enter gf args) w)
    {encs : List Value} {Y Z : Nat → Prop} {Wc : World → Prop} (hseq : SeqC P gf lb encs Y Z Wc)
    (hWc : ∀ W, Off (fun _ => False) w W → Wc W)
    (I : Nat → (Nat → Prop) → World → Prop) (Ix : Code → Nat → (Nat → Prop) → World → Prop) (hI : Foot I) (hIx : ∀ c, Foot (Ix c)) (X : Nat → Prop)
    (hX : ∀ b, X b → ¬ Y b ∧ ¬ Z b) (h0 : I 0 X w) (hYZ : ∀ b, Y b ∨ Z b → b < w.heap.size) (a₁ : Nat → Act)
    (hassign : ∀ (l k : Nat) (hk : k < encs.length) (W : World) (K : Act → World → Prop), K (a₁ k) W →
      assign.wpIn (Fence.wide.inRound l) 0 P (Exit.then K (fun _ _ _ => False)) { tmps := a.tmps.setIfInBounds pt encs[k], defers := [] } W)
    (hbody : ∀ (l k : Nat) (hk : k < encs.length) (X : Nat → Prop) (W : World), I k X W → body.wpIn (Fence.wide.inRound l) 0 P (bodyR X W (I (k + 1)) (fun c => Ix c k)) (a₁ k) W)
    (hdone : ∀ (D : Nat) (X' : Nat → Prop) (W : World), w.heap.size ≤ D → ¬ X' D → Grew X w X' → Off (fun b => X b ∨ Y b) w W → I encs.length X' W → W.heap[D]? = some (.deferred (some [])) → Q .normal { a with defers := CollD D :: a.defers } W)
    (hstop : ∀ (D : Nat) (c : Code) (k : Nat) (X' : Nat → Prop) (W : World), k < encs.length → w.heap.size ≤ D → ¬ X' D → Grew X w X' → Off (fun b => X b ∨ Y b) w W → Ix c k X' W → W.heap[D]? = some (.deferred (some [])) →
      c.wpIn Fence.wide 0 P Q { a with defers := CollD D :: a.defers } W) :
    (Code.rangeFunc g #[pt] assign body).wpIn Fence.wide 0 P Q a w := by
  refine wpIn_rangeFunc ?_
  intro fn hfn
  obtain ⟨rec, hrec⟩ : ∃ rec : LoopState → Option Code → Loop, rec = fun st pe => { state := st, pending := pe, fn, tmps := a.tmps, params := #[pt], assign, body, defers := w.heap.size } := ⟨_, rfl⟩
  obtain ⟨W1, hW1⟩ : ∃ W1, (w.alloc (.deferred (some []))).alloc (.loop (rec .ready none)) = W1 := ⟨_, rfl⟩
  have hL1 : W1.heap[w.heap.size + 1]? = some (.loop (rec .ready none)) := by
    rw [← hW1]; have := World.alloc_heap_new (w.alloc (.deferred (some []))) (.loop (rec .ready none)); rwa [World.size_alloc] at this
  have hK1 : W1.heap[w.heap.size]? = some (.deferred (some [])) := by
    rw [← hW1]; exact (Below.heap_alloc _ _ _ (by simp)).trans (World.alloc_heap_new w _)
  have hOff1 : ∀ Y', Off Y' w W1 := fun Y' => by rw [← hW1]; exact (Off.alloc _ _ _).trans (Off.alloc _ _ _)
  have hs1 : W1.heap.size = w.heap.size + 2 := by rw [← hW1]; simp
  have hI1 : I 0 X W1 := hI.1 0 X w W1 h0 (hOff1 _)
  have hXlt : ∀ b, X b → b < w.heap.size := fun b hb => hI.2 0 X w b h0 hb
  refine ⟨w.heap.size + 1, [{ target := .collected w.heap.size, args := #[] }], W1, { target := .fn (.func gf) lb, args := #[.func (.yield (w.heap.size + 1)) #[] #[]] }, W1, gf,
    #[.func (.yield (w.heap.size + 1)) #[] #[]] ++ lb, W1, ?_, ?_, ?_, ?_, fun h => by simp [Fence.wide] at h, ?_⟩
  · rw [← hW1, hrec]; exact run_enterLoop_outer _ _ _ _ _
  · simp only [resolve, hg]
    simp [go_sem]
  · intro f' hf'; trivial
  · simp [invoke, go_sem, eg]
  · -- the two blocks of book-keeping beside the caller's own
    let Bk : (Nat → Prop) → (Nat → Prop) → Prop := fun X' X0 => ∀ b, X' b ↔ (X0 b ∨ b = w.heap.size ∨ b = w.heap.size + 1)
    let J : Nat → (Nat → Prop) → World → Prop := fun k X' W => ∃ X0, Bk X' X0 ∧ ¬ X0 w.heap.size ∧ ¬ X0 (w.heap.size + 1) ∧ Grew X w X0 ∧ I k X0 W ∧ W.heap[w.heap.size + 1]? = some (.loop (rec .ready none)) ∧ W.heap[w.heap.size]? = some (.deferred (some []))
    let Jx : Nat → (Nat → Prop) → World → Prop := fun k X' W => ∃ c X0, Bk X' X0 ∧ ¬ X0 w.heap.size ∧ ¬ X0 (w.heap.size + 1) ∧ Grew X w X0 ∧ Ix c k X0 W ∧ W.heap[w.heap.size + 1]? = some (.loop (rec .done (some c))) ∧ W.heap[w.heap.size]? = some (.deferred (some []))
    have keep : ∀ {X' X0 : Nat → Prop} {W W' : World} {o : Obj} {b : Nat}, Bk X' X0 → X' b → Off (fun b => ¬ X' b) W W' → W.heap[b]? = some o → W'.heap[b]? = some o :=
      fun {X' X0 W W' o b} hbk hx ho hb => (ho.block b (Array.getElem?_eq_some_iff.1 hb).1 (fun h => h hx)).trans hb
    have hJ : Foot J := by
      refine ⟨?_, ?_⟩
      · rintro k X' W W' ⟨X0, hbk, n1, n2, hgr, hi, hl, hk⟩ ho
        exact ⟨X0, hbk, n1, n2, hgr, hI.1 _ _ _ _ hi (ho.mono (fun b _ hn h0 => hn ((hbk b).2 (.inl h0)))), keep hbk ((hbk _).2 (.inr (.inr rfl))) ho hl, keep hbk ((hbk _).2 (.inr (.inl rfl))) ho hk⟩
      · rintro k X' W b ⟨X0, hbk, n1, n2, hgr, hi, hl, hk⟩ hb
        rcases (hbk b).1 hb with h | rfl | rfl
        · exact hI.2 _ _ _ _ hi h
        · exact (Array.getElem?_eq_some_iff.1 hk).1
        · exact (Array.getElem?_eq_some_iff.1 hl).1
    have hJx : Foot Jx := by
      refine ⟨?_, ?_⟩
      · rintro k X' W W' ⟨c, X0, hbk, n1, n2, hgr, hi, hl, hk⟩ ho
        exact ⟨c, X0, hbk, n1, n2, hgr, (hIx c).1 _ _ _ _ hi (ho.mono (fun b _ hn h0 => hn ((hbk b).2 (.inl h0)))), keep hbk ((hbk _).2 (.inr (.inr rfl))) ho hl, keep hbk ((hbk _).2 (.inr (.inl rfl))) ho hk⟩
      · rintro k X' W b ⟨c, X0, hbk, n1, n2, hgr, hi, hl, hk⟩ hb
        rcases (hbk b).1 hb with h | rfl | rfl
        · exact (hIx c).2 _ _ _ _ hi h
        · exact (Array.getElem?_eq_some_iff.1 hk).1
        · exact (Array.getElem?_eq_some_iff.1 hl).1
    have hXY : ∀ b, (X b ∨ b = w.heap.size ∨ b = w.heap.size + 1) → ¬ Y b ∧ ¬ Z b := by
      rintro b (h | rfl | rfl)
      · exact hX b h
      · exact ⟨fun h => by have := hYZ _ (.inl h); omega, fun h => by have := hYZ _ (.inr h); omega⟩
      · exact ⟨fun h => by have := hYZ _ (.inl h); omega, fun h => by have := hYZ _ (.inr h); omega⟩
    refine (hseq (w.heap.size + 1) J Jx (fun b => X b ∨ b = w.heap.size ∨ b = w.heap.size + 1) W1 (hWc W1 (hOff1 _)) hJ hJx hXY ⟨X, fun b => Iff.rfl, fun h => by have := hXlt _ h; omega, fun h => by have := hXlt _ h; omega, Grew.refl _ _, hI1, hL1, hK1⟩ ?_).mono ?_
    · -- one round
      rintro k X' W hk ⟨X0, hbk, n1, n2, hgr, hi, hl, hd⟩
      have hlt : w.heap.size + 1 < W.heap.size := (Array.getElem?_eq_some_iff.1 hl).1
      have hy := run_yield (P := P) (args := #[encs[k]]) hl (by rw [hrec]; rfl)
      rw [hrec] at hy
      refine ⟨fn, _, assign, body, hy, roundIn_of_wpIn hfn ?_⟩
      have hz : ((#[pt] : Array Tmp).zip #[encs[k]]).foldl (fun t (p, v) => t.setIfInBounds p v) a.tmps = a.tmps.setIfInBounds pt encs[k] := by simp
      have ha := hassign (w.heap.size + 1) k hk W (fun a₁' w₁ => ∃ w₂, (Instr.beginRound (w.heap.size + 1)).run P w₁ = .ok () w₂ ∧ body.wpIn (Fence.wide.inRound (w.heap.size + 1)) 0 P (roundPost P (w.heap.size + 1) (RoundR X' W (J (k + 1)) (Jx k))) a₁' w₂) ?_
      · rw [← hz] at ha; exact ha
      refine ⟨_, run_beginRound hl (by rw [hrec]), ?_⟩
      have hl2 : (W.putObj (w.heap.size + 1) (.loop { rec .ready none with state := .busy })).heap[w.heap.size + 1]? = some (.loop { rec .ready none with state := .busy }) := World.putObj_heap_same hlt
      have hd2 : (W.putObj (w.heap.size + 1) (.loop { rec .ready none with state := .busy })).heap[w.heap.size]? = some (.deferred (some [])) := (World.putObj_heap_other (by omega)).trans hd
      have ho2 : Off (fun b => b = w.heap.size + 1) W (W.putObj (w.heap.size + 1) (.loop { rec .ready none with state := .busy })) := Off.putObj _ _ _ rfl
      have hi2 : I k X0 (W.putObj (w.heap.size + 1) (.loop { rec .ready none with state := .busy })) := hI.1 _ _ _ _ hi (ho2.mono (fun b _ e h => n2 (e ▸ h)))
      refine wpIn_mono (hbody _ k hk X0 _ hi2) ?_
      have fin : ∀ (jump : Option Code) (X3 : Nat → Prop) (W3 : World), Grew X0 (W.putObj (w.heap.size + 1) (.loop { rec .ready none with state := .busy })) X3 → Off X0 (W.putObj (w.heap.size + 1) (.loop { rec .ready none with state := .busy })) W3 →
          (Instr.endRound (w.heap.size + 1) jump).run P W3 = .ok (.bool jump.isNone) (W3.putObj (w.heap.size + 1) (.loop (rec (if jump.isNone then .ready else .done) jump))) ∧
          (W3.putObj (w.heap.size + 1) (.loop (rec (if jump.isNone then .ready else .done) jump))).heap[w.heap.size + 1]? = some (.loop (rec (if jump.isNone then .ready else .done) jump)) ∧
          (W3.putObj (w.heap.size + 1) (.loop (rec (if jump.isNone then .ready else .done) jump))).heap[w.heap.size]? = some (.deferred (some [])) ∧
          ¬ X3 w.heap.size ∧ ¬ X3 (w.heap.size + 1) ∧ Grew X w X3 ∧ Off X' W (W3.putObj (w.heap.size + 1) (.loop (rec (if jump.isNone then .ready else .done) jump))) ∧
          Grew X' W (fun b => X3 b ∨ b = w.heap.size ∨ b = w.heap.size + 1) ∧ Off (fun b => ¬ X3 b) W3 (W3.putObj (w.heap.size + 1) (.loop (rec (if jump.isNone then .ready else .done) jump))) := fun jump X3 W3 hg3 ho3 => by
        have hsz : (W.putObj (w.heap.size + 1) (.loop { rec .ready none with state := .busy })).heap.size = W.heap.size := World.putObj_size
        have hl3 := (ho3.block (w.heap.size + 1) (by rw [hsz]; omega) n2).trans hl2
        have hd3 := (ho3.block w.heap.size (by rw [hsz]; omega) n1).trans hd2
        have m1 : ¬ X3 w.heap.size := fun h => by rcases hg3 _ h with h | h; exact n1 h; rw [hsz] at h; omega
        have m2 : ¬ X3 (w.heap.size + 1) := fun h => by rcases hg3 _ h with h | h; exact n2 h; rw [hsz] at h; omega
        have hr := run_endRound (P := P) jump hl3
        rw [hrec] at hr ⊢
        refine ⟨hr, World.putObj_heap_same (Array.getElem?_eq_some_iff.1 hl3).1, (World.putObj_heap_other (by omega)).trans hd3, m1, m2, ?_, ?_, ?_, Off.putObj _ _ _ m2⟩
        · exact hgr.trans (W' := W) (fun b h => by rcases hg3 b h with h | h; exact .inl h; rw [hsz] at h; exact .inr h) (by omega)
        · have t1 : Off X' W (W.putObj (w.heap.size + 1) (.loop { rec .ready none with state := .busy })) := Off.putObj _ _ _ ((hbk _).2 (.inr (.inr rfl)))
          have t2 : Off X' (W.putObj (w.heap.size + 1) (.loop { rec .ready none with state := .busy })) W3 := ho3.mono (fun b _ h => (hbk b).2 (.inl h))
          rw [hrec] at t1 t2
          exact (t1.trans t2).trans (Off.putObj _ _ _ ((hbk _).2 (.inr (.inr rfl))))
        · rintro b (h | rfl | rfl)
          · rcases hg3 b h with h | h
            · exact .inl ((hbk b).2 (.inl h))
            · rw [hsz] at h; exact .inr h
          · exact .inl ((hbk _).2 (.inr (.inl rfl)))
          · exact .inl ((hbk _).2 (.inr (.inr rfl)))
      rintro e a3 W3 hp
      cases e with
      | normal =>
        obtain ⟨X3, hg3, ho3, hi3⟩ := hp
        obtain ⟨hr, hl4, hd4, m1, m2, hgx, hof, hgf, hoff⟩ := fin none X3 W3 hg3 ho3
        exact ⟨_, _, hr, _, hgf, hof, .inl ⟨rfl, X3, fun b => Iff.rfl, m1, m2, hgx, hI.1 _ _ _ _ hi3 hoff, hl4, hd4⟩⟩
      | ret =>
        obtain ⟨X3, hg3, ho3, hi3⟩ := hp
        obtain ⟨hr, hl4, hd4, m1, m2, hgx, hof, hgf, hoff⟩ := fin (some .ret) X3 W3 hg3 ho3
        exact ⟨_, _, hr, _, hgf, hof, .inr ⟨rfl, .ret, X3, fun b => Iff.rfl, m1, m2, hgx, (hIx _).1 _ _ _ _ hi3 hoff, hl4, hd4⟩⟩
      | exit id =>
        obtain ⟨X3, hg3, ho3, hi3⟩ := hp
        obtain ⟨hr, hl4, hd4, m1, m2, hgx, hof, hgf, hoff⟩ := fin (some (.exit id)) X3 W3 hg3 ho3
        exact ⟨_, _, hr, _, hgf, hof, .inr ⟨rfl, .exit id, X3, fun b => Iff.rfl, m1, m2, hgx, (hIx _).1 _ _ _ _ hi3 hoff, hl4, hd4⟩⟩
      | goto t =>
        obtain ⟨X3, hg3, ho3, hi3⟩ := hp
        obtain ⟨hr, hl4, hd4, m1, m2, hgx, hof, hgf, hoff⟩ := fin (some (.goto t)) X3 W3 hg3 ho3
        exact ⟨_, _, hr, _, hgf, hof, .inr ⟨rfl, .goto t, X3, fun b => Iff.rfl, m1, m2, hgx, (hIx _).1 _ _ _ _ hi3 hoff, hl4, hd4⟩⟩
      | panic ch => exact hp.elim
      | outgrown => exact hp.elim
    · -- behind the iterator
      rintro e W2 ⟨⟨v, rfl⟩, X', hgX, hoff, h⟩
      have hOffw : ∀ (X0 : Nat → Prop) (o : Obj), Off (fun b => X b ∨ Y b) w (W2.putObj (w.heap.size + 1) o) := fun X0 o => by
        have t := (hOff1 (fun b => X b ∨ Y b)).trans' (hoff.trans (Off.putObj W2 (w.heap.size + 1) o (.inl (.inr (.inr rfl))))) (fun b hb => by
          rcases hb with (h | rfl | rfl) | h
          · exact .inl (.inl h)
          · exact .inr (Nat.le_refl _)
          · exact .inr (by omega)
          · exact .inl (.inr h))
        exact t
      rcases h with ⟨X0, hbk, n1, n2, hgr, hi, hl, hd⟩ | ⟨k, hk, c, X0, hbk, n1, n2, hgr, hi, hl, hd⟩
      · refine ⟨none, _, by have := run_endLoop (P := P) hl (by rw [hrec]; simp); rw [hrec] at this; exact this, ?_⟩
        exact hdone w.heap.size X0 _ (Nat.le_refl _) n1 hgr (hOffw X0 _) (hI.1 _ _ _ _ hi (Off.putObj _ _ _ n2)) ((World.putObj_heap_other (by omega)).trans hd)
      · refine ⟨some c, _, by have := run_endLoop (P := P) hl (by rw [hrec]; simp); rw [hrec] at this; exact this, ?_⟩
        exact hstop w.heap.size c k X0 _ hk (Nat.le_refl _) n1 hgr (hOffw X0 _) ((hIx c).1 _ _ _ _ hi (Off.putObj _ _ _ n2)) ((World.putObj_heap_other (by omega)).trans hd)
end Go.Proofs.Ytbbompmpecblgaa.Seq
end
section
/- As Seq, for 'for x, y := range seq { .. }'. General: no program. -/
namespace Go.Proofs.Ytbbompmpecblgaa.SeqN
open Go Go.RowKit Go.Proofs.Ytbbompmpecblgaa.Seq
set_option linter.unusedVariables false

/-- THE ITERATOR's CONTRACT: it hands out encs, one behind the other, unless it is told to stop. -/
def SeqCn (P : Program) (gf : Nat) (lb : Array Value) (encs : List (Array Value)) (Y Z : Nat → Prop) (Wc : World → Prop) : Prop :=
  ∀ (l : Nat) (J Jx : Nat → (Nat → Prop) → World → Prop) (X : Nat → Prop) (W : World), Wc W → Foot J → Foot Jx → (∀ b, X b → ¬ Y b ∧ ¬ Z b) → J 0 X W →
    (∀ k X W (hk : k < encs.length), J k X W → YieldAt Fence.wide 0 P l encs[k] W (RoundR X W (J (k + 1)) (Jx k))) →
    CallsIn Fence.wide 0 P gf (#[.func (.yield l) #[] #[]] ++ lb) W (SeqR X Y W (J encs.length) (fun X' W' => ∃ k, k < encs.length ∧ Jx k X' W'))

/-- THE LOOP. The assignment to the loop's variable is a plain move (a₁ k is the activation behind it). -/
theorem wpIn_rangeN {P : Program} {g : Operand} {pts : Array Tmp} {assign body : Code} {Q : Exit → Act → World → Prop} {a : Act} {w : World}
    {gf : Nat} {lb : Array Value} (hg : a.eval g = .func (.func gf) #[] lb) (eg : ∀ args w, (callFunc gf args).run P w = .ok (.enter gf args) w)
    {encs : List (Array Value)} {Y Z : Nat → Prop} {Wc : World → Prop} (hseq : SeqCn P gf lb encs Y Z Wc)
    (hWc : ∀ W, Off (fun _ => False) w W → Wc W)
    (I : Nat → (Nat → Prop) → World → Prop) (Ix : Code → Nat → (Nat → Prop) → World → Prop) (hI : Foot I) (hIx : ∀ c, Foot (Ix c)) (X : Nat → Prop)
    (hX : ∀ b, X b → ¬ Y b ∧ ¬ Z b) (h0 : I 0 X w) (hYZ : ∀ b, Y b ∨ Z b → b < w.heap.size) (a₁ : Nat → Act)
    (hassign : ∀ (l k : Nat) (hk : k < encs.length) (W : World) (K : Act → World → Prop), K (a₁ k) W →
      assign.wpIn (Fence.wide.inRound l) 0 P (Exit.then K (fun _ _ _ => False)) { tmps := (pts.zip encs[k]).foldl (fun t (p, v) => t.setIfInBounds p v) a.tmps, defers := [] } W)
    (hsz : ∀ k (hk : k < encs.length), encs[k].size = pts.size)
    (hbody : ∀ (l k : Nat) (hk : k < encs.length) (X : Nat → Prop) (W : World), I k X W → body.wpIn (Fence.wide.inRound l) 0 P (bodyR X W (I (k + 1)) (fun c => Ix c k)) (a₁ k) W)
    (hdone : ∀ (D : Nat) (X' : Nat → Prop) (W : World), w.heap.size ≤ D → ¬ X' D → Grew X w X' → Off (fun b => X b ∨ Y b) w W → I encs.length X' W → W.heap[D]? = some (.deferred (some [])) → Q .normal { a with defers := CollD D :: a.defers } W)
    (hstop : ∀ (D : Nat) (c : Code) (k : Nat) (X' : Nat → Prop) (W : World), k < encs.length → w.heap.size ≤ D → ¬ X' D → Grew X w X' → Off (fun b => X b ∨ Y b) w W → Ix c k X' W → W.heap[D]? = some (.deferred (some [])) →
      c.wpIn Fence.wide 0 P Q { a with defers := CollD D :: a.defers } W) :
    (Code.rangeFunc g pts assign body).wpIn Fence.wide 0 P Q a w := by
  refine wpIn_rangeFunc ?_
  intro fn hfn
  obtain ⟨rec, hrec⟩ : ∃ rec : LoopState → Option Code → Loop, rec = fun st pe => { state := st, pending := pe, fn, tmps := a.tmps, params := pts, assign, body, defers := w.heap.size } := ⟨_, rfl⟩
  obtain ⟨W1, hW1⟩ : ∃ W1, (w.alloc (.deferred (some []))).alloc (.loop (rec .ready none)) = W1 := ⟨_, rfl⟩
  have hL1 : W1.heap[w.heap.size + 1]? = some (.loop (rec .ready none)) := by
    rw [← hW1]; have := World.alloc_heap_new (w.alloc (.deferred (some []))) (.loop (rec .ready none)); rwa [World.size_alloc] at this
  have hK1 : W1.heap[w.heap.size]? = some (.deferred (some [])) := by
    rw [← hW1]; exact (Below.heap_alloc _ _ _ (by simp)).trans (World.alloc_heap_new w _)
  have hOff1 : ∀ Y', Off Y' w W1 := fun Y' => by rw [← hW1]; exact (Off.alloc _ _ _).trans (Off.alloc _ _ _)
  have hs1 : W1.heap.size = w.heap.size + 2 := by rw [← hW1]; simp
  have hI1 : I 0 X W1 := hI.1 0 X w W1 h0 (hOff1 _)
  have hXlt : ∀ b, X b → b < w.heap.size := fun b hb => hI.2 0 X w b h0 hb
  refine ⟨w.heap.size + 1, [{ target := .collected w.heap.size, args := #[] }], W1, { target := .fn (.func gf) lb, args := #[.func (.yield (w.heap.size + 1)) #[] #[]] }, W1, gf,
    #[.func (.yield (w.heap.size + 1)) #[] #[]] ++ lb, W1, ?_, ?_, ?_, ?_, fun h => by simp [Fence.wide] at h, ?_⟩
  · rw [← hW1, hrec]; exact run_enterLoop_outer _ _ _ _ _
  · simp only [resolve, hg]
    simp [go_sem]
  · intro f' hf'; trivial
  · simp [invoke, go_sem, eg]
  · -- the two blocks of book-keeping beside the caller's own
    let Bk : (Nat → Prop) → (Nat → Prop) → Prop := fun X' X0 => ∀ b, X' b ↔ (X0 b ∨ b = w.heap.size ∨ b = w.heap.size + 1)
    let J : Nat → (Nat → Prop) → World → Prop := fun k X' W => ∃ X0, Bk X' X0 ∧ ¬ X0 w.heap.size ∧ ¬ X0 (w.heap.size + 1) ∧ Grew X w X0 ∧ I k X0 W ∧ W.heap[w.heap.size + 1]? = some (.loop (rec .ready none)) ∧ W.heap[w.heap.size]? = some (.deferred (some []))
    let Jx : Nat → (Nat → Prop) → World → Prop := fun k X' W => ∃ c X0, Bk X' X0 ∧ ¬ X0 w.heap.size ∧ ¬ X0 (w.heap.size + 1) ∧ Grew X w X0 ∧ Ix c k X0 W ∧ W.heap[w.heap.size + 1]? = some (.loop (rec .done (some c))) ∧ W.heap[w.heap.size]? = some (.deferred (some []))
    have keep : ∀ {X' X0 : Nat → Prop} {W W' : World} {o : Obj} {b : Nat}, Bk X' X0 → X' b → Off (fun b => ¬ X' b) W W' → W.heap[b]? = some o → W'.heap[b]? = some o :=
      fun {X' X0 W W' o b} hbk hx ho hb => (ho.block b (Array.getElem?_eq_some_iff.1 hb).1 (fun h => h hx)).trans hb
    have hJ : Foot J := by
      refine ⟨?_, ?_⟩
      · rintro k X' W W' ⟨X0, hbk, n1, n2, hgr, hi, hl, hk⟩ ho
        exact ⟨X0, hbk, n1, n2, hgr, hI.1 _ _ _ _ hi (ho.mono (fun b _ hn h0 => hn ((hbk b).2 (.inl h0)))), keep hbk ((hbk _).2 (.inr (.inr rfl))) ho hl, keep hbk ((hbk _).2 (.inr (.inl rfl))) ho hk⟩
      · rintro k X' W b ⟨X0, hbk, n1, n2, hgr, hi, hl, hk⟩ hb
        rcases (hbk b).1 hb with h | rfl | rfl
        · exact hI.2 _ _ _ _ hi h
        · exact (Array.getElem?_eq_some_iff.1 hk).1
        · exact (Array.getElem?_eq_some_iff.1 hl).1
    have hJx : Foot Jx := by
      refine ⟨?_, ?_⟩
      · rintro k X' W W' ⟨c, X0, hbk, n1, n2, hgr, hi, hl, hk⟩ ho
        exact ⟨c, X0, hbk, n1, n2, hgr, (hIx c).1 _ _ _ _ hi (ho.mono (fun b _ hn h0 => hn ((hbk b).2 (.inl h0)))), keep hbk ((hbk _).2 (.inr (.inr rfl))) ho hl, keep hbk ((hbk _).2 (.inr (.inl rfl))) ho hk⟩
      · rintro k X' W b ⟨c, X0, hbk, n1, n2, hgr, hi, hl, hk⟩ hb
        rcases (hbk b).1 hb with h | rfl | rfl
        · exact (hIx c).2 _ _ _ _ hi h
        · exact (Array.getElem?_eq_some_iff.1 hk).1
        · exact (Array.getElem?_eq_some_iff.1 hl).1
    have hXY : ∀ b, (X b ∨ b = w.heap.size ∨ b = w.heap.size + 1) → ¬ Y b ∧ ¬ Z b := by
      rintro b (h | rfl | rfl)
      · exact hX b h
      · exact ⟨fun h => by have := hYZ _ (.inl h); omega, fun h => by have := hYZ _ (.inr h); omega⟩
      · exact ⟨fun h => by have := hYZ _ (.inl h); omega, fun h => by have := hYZ _ (.inr h); omega⟩
    refine (hseq (w.heap.size + 1) J Jx (fun b => X b ∨ b = w.heap.size ∨ b = w.heap.size + 1) W1 (hWc W1 (hOff1 _)) hJ hJx hXY ⟨X, fun b => Iff.rfl, fun h => by have := hXlt _ h; omega, fun h => by have := hXlt _ h; omega, Grew.refl _ _, hI1, hL1, hK1⟩ ?_).mono ?_
    · -- one round
      rintro k X' W hk ⟨X0, hbk, n1, n2, hgr, hi, hl, hd⟩
      have hlt : w.heap.size + 1 < W.heap.size := (Array.getElem?_eq_some_iff.1 hl).1
      have hy := run_yield (P := P) (args := encs[k]) hl (by rw [hrec]; exact (hsz k hk))
      rw [hrec] at hy
      refine ⟨fn, _, assign, body, hy, roundIn_of_wpIn hfn ?_⟩
      have ha := hassign (w.heap.size + 1) k hk W (fun a₁' w₁ => ∃ w₂, (Instr.beginRound (w.heap.size + 1)).run P w₁ = .ok () w₂ ∧ body.wpIn (Fence.wide.inRound (w.heap.size + 1)) 0 P (roundPost P (w.heap.size + 1) (RoundR X' W (J (k + 1)) (Jx k))) a₁' w₂) ?_
      · exact ha
      refine ⟨_, run_beginRound hl (by rw [hrec]), ?_⟩
      have hl2 : (W.putObj (w.heap.size + 1) (.loop { rec .ready none with state := .busy })).heap[w.heap.size + 1]? = some (.loop { rec .ready none with state := .busy }) := World.putObj_heap_same hlt
      have hd2 : (W.putObj (w.heap.size + 1) (.loop { rec .ready none with state := .busy })).heap[w.heap.size]? = some (.deferred (some [])) := (World.putObj_heap_other (by omega)).trans hd
      have ho2 : Off (fun b => b = w.heap.size + 1) W (W.putObj (w.heap.size + 1) (.loop { rec .ready none with state := .busy })) := Off.putObj _ _ _ rfl
      have hi2 : I k X0 (W.putObj (w.heap.size + 1) (.loop { rec .ready none with state := .busy })) := hI.1 _ _ _ _ hi (ho2.mono (fun b _ e h => n2 (e ▸ h)))
      refine wpIn_mono (hbody _ k hk X0 _ hi2) ?_
      have fin : ∀ (jump : Option Code) (X3 : Nat → Prop) (W3 : World), Grew X0 (W.putObj (w.heap.size + 1) (.loop { rec .ready none with state := .busy })) X3 → Off X0 (W.putObj (w.heap.size + 1) (.loop { rec .ready none with state := .busy })) W3 →
          (Instr.endRound (w.heap.size + 1) jump).run P W3 = .ok (.bool jump.isNone) (W3.putObj (w.heap.size + 1) (.loop (rec (if jump.isNone then .ready else .done) jump))) ∧
          (W3.putObj (w.heap.size + 1) (.loop (rec (if jump.isNone then .ready else .done) jump))).heap[w.heap.size + 1]? = some (.loop (rec (if jump.isNone then .ready else .done) jump)) ∧
          (W3.putObj (w.heap.size + 1) (.loop (rec (if jump.isNone then .ready else .done) jump))).heap[w.heap.size]? = some (.deferred (some [])) ∧
          ¬ X3 w.heap.size ∧ ¬ X3 (w.heap.size + 1) ∧ Grew X w X3 ∧ Off X' W (W3.putObj (w.heap.size + 1) (.loop (rec (if jump.isNone then .ready else .done) jump))) ∧
          Grew X' W (fun b => X3 b ∨ b = w.heap.size ∨ b = w.heap.size + 1) ∧ Off (fun b => ¬ X3 b) W3 (W3.putObj (w.heap.size + 1) (.loop (rec (if jump.isNone then .ready else .done) jump))) := fun jump X3 W3 hg3 ho3 => by
        have hsz : (W.putObj (w.heap.size + 1) (.loop { rec .ready none with state := .busy })).heap.size = W.heap.size := World.putObj_size
        have hl3 := (ho3.block (w.heap.size + 1) (by rw [hsz]; omega) n2).trans hl2
        have hd3 := (ho3.block w.heap.size (by rw [hsz]; omega) n1).trans hd2
        have m1 : ¬ X3 w.heap.size := fun h => by rcases hg3 _ h with h | h; exact n1 h; rw [hsz] at h; omega
        have m2 : ¬ X3 (w.heap.size + 1) := fun h => by rcases hg3 _ h with h | h; exact n2 h; rw [hsz] at h; omega
        have hr := run_endRound (P := P) jump hl3
        rw [hrec] at hr ⊢
        refine ⟨hr, World.putObj_heap_same (Array.getElem?_eq_some_iff.1 hl3).1, (World.putObj_heap_other (by omega)).trans hd3, m1, m2, ?_, ?_, ?_, Off.putObj _ _ _ m2⟩
        · exact hgr.trans (W' := W) (fun b h => by rcases hg3 b h with h | h; exact .inl h; rw [hsz] at h; exact .inr h) (by omega)
        · have t1 : Off X' W (W.putObj (w.heap.size + 1) (.loop { rec .ready none with state := .busy })) := Off.putObj _ _ _ ((hbk _).2 (.inr (.inr rfl)))
          have t2 : Off X' (W.putObj (w.heap.size + 1) (.loop { rec .ready none with state := .busy })) W3 := ho3.mono (fun b _ h => (hbk b).2 (.inl h))
          rw [hrec] at t1 t2
          exact (t1.trans t2).trans (Off.putObj _ _ _ ((hbk _).2 (.inr (.inr rfl))))
        · rintro b (h | rfl | rfl)
          · rcases hg3 b h with h | h
            · exact .inl ((hbk b).2 (.inl h))
            · rw [hsz] at h; exact .inr h
          · exact .inl ((hbk _).2 (.inr (.inl rfl)))
          · exact .inl ((hbk _).2 (.inr (.inr rfl)))
      rintro e a3 W3 hp
      cases e with
      | normal =>
        obtain ⟨X3, hg3, ho3, hi3⟩ := hp
        obtain ⟨hr, hl4, hd4, m1, m2, hgx, hof, hgf, hoff⟩ := fin none X3 W3 hg3 ho3
        exact ⟨_, _, hr, _, hgf, hof, .inl ⟨rfl, X3, fun b => Iff.rfl, m1, m2, hgx, hI.1 _ _ _ _ hi3 hoff, hl4, hd4⟩⟩
      | ret =>
        obtain ⟨X3, hg3, ho3, hi3⟩ := hp
        obtain ⟨hr, hl4, hd4, m1, m2, hgx, hof, hgf, hoff⟩ := fin (some .ret) X3 W3 hg3 ho3
        exact ⟨_, _, hr, _, hgf, hof, .inr ⟨rfl, .ret, X3, fun b => Iff.rfl, m1, m2, hgx, (hIx _).1 _ _ _ _ hi3 hoff, hl4, hd4⟩⟩
      | exit id =>
        obtain ⟨X3, hg3, ho3, hi3⟩ := hp
        obtain ⟨hr, hl4, hd4, m1, m2, hgx, hof, hgf, hoff⟩ := fin (some (.exit id)) X3 W3 hg3 ho3
        exact ⟨_, _, hr, _, hgf, hof, .inr ⟨rfl, .exit id, X3, fun b => Iff.rfl, m1, m2, hgx, (hIx _).1 _ _ _ _ hi3 hoff, hl4, hd4⟩⟩
      | goto t =>
        obtain ⟨X3, hg3, ho3, hi3⟩ := hp
        obtain ⟨hr, hl4, hd4, m1, m2, hgx, hof, hgf, hoff⟩ := fin (some (.goto t)) X3 W3 hg3 ho3
        exact ⟨_, _, hr, _, hgf, hof, .inr ⟨rfl, .goto t, X3, fun b => Iff.rfl, m1, m2, hgx, (hIx _).1 _ _ _ _ hi3 hoff, hl4, hd4⟩⟩
      | panic ch => exact hp.elim
      | outgrown => exact hp.elim
    · -- behind the iterator
      rintro e W2 ⟨⟨v, rfl⟩, X', hgX, hoff, h⟩
      have hOffw : ∀ (X0 : Nat → Prop) (o : Obj), Off (fun b => X b ∨ Y b) w (W2.putObj (w.heap.size + 1) o) := fun X0 o => by
        have t := (hOff1 (fun b => X b ∨ Y b)).trans' (hoff.trans (Off.putObj W2 (w.heap.size + 1) o (.inl (.inr (.inr rfl))))) (fun b hb => by
          rcases hb with (h | rfl | rfl) | h
          · exact .inl (.inl h)
          · exact .inr (Nat.le_refl _)
          · exact .inr (by omega)
          · exact .inl (.inr h))
        exact t
      rcases h with ⟨X0, hbk, n1, n2, hgr, hi, hl, hd⟩ | ⟨k, hk, c, X0, hbk, n1, n2, hgr, hi, hl, hd⟩
      · refine ⟨none, _, by have := run_endLoop (P := P) hl (by rw [hrec]; simp); rw [hrec] at this; exact this, ?_⟩
        exact hdone w.heap.size X0 _ (Nat.le_refl _) n1 hgr (hOffw X0 _) (hI.1 _ _ _ _ hi (Off.putObj _ _ _ n2)) ((World.putObj_heap_other (by omega)).trans hd)
      · refine ⟨some c, _, by have := run_endLoop (P := P) hl (by rw [hrec]; simp); rw [hrec] at this; exact this, ?_⟩
        exact hstop w.heap.size c k X0 _ hk (Nat.le_refl _) n1 hgr (hOffw X0 _) ((hIx c).1 _ _ _ _ hi (Off.putObj _ _ _ n2)) ((World.putObj_heap_other (by omega)).trans hd)
end Go.Proofs.Ytbbompmpecblgaa.SeqN
end
section
/- The words of a text, names, folding: plain functions on lists of bytes. No program. -/
namespace Go.Proofs.Ytbbompmpecblgaa.WS
set_option linter.unusedVariables false

def isBlank (b : UInt8) : Bool := b == 9 || b == 10 || b == 12 || b == 13 || b == 32
def letterB (b : UInt8) : Bool := (65 ≤ b.toNat && b.toNat ≤ 90) || (97 ≤ b.toNat && b.toNat ≤ 122)
def digitB (b : UInt8) : Bool := 48 ≤ b.toNat && b.toNat ≤ 57
def markB (b : UInt8) : Bool := letterB b || digitB b || b == 45 || b == 95
def nameB (s : List UInt8) : Bool := decide (1 ≤ s.length) && decide (s.length ≤ 20) && (s.head?.map letterB).getD false && s.all markB
def textB (s : List UInt8) : Bool := decide (s.length ≤ 60)
def foldB (b : UInt8) : UInt8 := if 65 ≤ b.toNat ∧ b.toNat ≤ 90 then b ||| 32 else b

def trimB (s : List UInt8) : List UInt8 := s.dropWhile isBlank
def headB (s : List UInt8) : List UInt8 := s.takeWhile (fun b => !isBlank b)
def tailB (s : List UInt8) : List UInt8 := s.dropWhile (fun b => !isBlank b)
theorem tailB_le (s : List UInt8) : (tailB s).length ≤ s.length := (List.dropWhile_suffix _).length_le
theorem trimB_le (s : List UInt8) : (trimB s).length ≤ s.length := (List.dropWhile_suffix _).length_le
theorem head_tail (s : List UInt8) : headB s ++ tailB s = s := List.takeWhile_append_dropWhile
theorem trimB_head {s : List UInt8} {b : UInt8} {t : List UInt8} (h : trimB s = b :: t) : isBlank b = false := by
  have := List.head?_dropWhile_not isBlank s
  unfold trimB at h
  rw [h] at this
  simpa using this
theorem tailB_lt {s : List UInt8} (h : trimB s ≠ []) : (tailB (trimB s)).length < (trimB s).length := by
  cases hs : trimB s with
  | nil => exact absurd hs h
  | cons b t =>
    have hb := trimB_head hs
    have : tailB (b :: t) = tailB t := by unfold tailB; rw [List.dropWhile_cons]; simp [hb]
    rw [this]
    have := tailB_le t
    simp; omega

/-- The words, also those that come again. -/
def words (s : List UInt8) : List (List UInt8) :=
  if h : trimB s = [] then [] else headB (trimB s) :: words (tailB (trimB s))
termination_by s.length
decreasing_by
  have := tailB_lt h
  have := trimB_le s
  omega

theorem words_nil {s : List UInt8} (h : trimB s = []) : words s = [] := by rw [words, dif_pos h]
theorem words_cons {s : List UInt8} (h : trimB s ≠ []) : words s = headB (trimB s) :: words (tailB (trimB s)) := by rw [words, dif_neg h]

/-- Each once. -/
def once (l : List (List UInt8)) : List (List UInt8) := l.foldl (fun acc w => if w ∈ acc then acc else acc ++ [w]) []
theorem once_snoc (l : List (List UInt8)) (w : List UInt8) : once (l ++ [w]) = if w ∈ once l then once l else once l ++ [w] := by
  unfold once
  rw [List.foldl_append]
  rfl
def put1 (acc : List (List UInt8)) (w : List UInt8) : List (List UInt8) := if w ∈ acc then acc else acc ++ [w]
theorem mem_put1 (acc : List (List UInt8)) (x w : List UInt8) : w ∈ put1 acc x ↔ w ∈ acc ∨ w = x := by
  unfold put1
  split
  · rename_i h
    constructor
    · exact .inl
    · rintro (h1 | rfl)
      · exact h1
      · exact h
  · simp
theorem mem_foldl_put1 (l : List (List UInt8)) : ∀ (acc : List (List UInt8)) (w : List UInt8), w ∈ l.foldl put1 acc ↔ w ∈ acc ∨ w ∈ l := by
  induction l with
  | nil => simp
  | cons x l ih =>
    intro acc w
    rw [List.foldl_cons, ih, mem_put1, List.mem_cons, or_assoc]
theorem once_eq (l : List (List UInt8)) : once l = l.foldl put1 [] := rfl
theorem mem_once (l : List (List UInt8)) (w : List UInt8) : w ∈ once l ↔ w ∈ l := by
  rw [once_eq, mem_foldl_put1]; simp
theorem foldl_put1_filter (b : List (List UInt8)) : ∀ (u acc : List (List UInt8)),
    b.foldl put1 (acc ++ u.filter (fun w => !acc.contains w)) = acc ++ (b.foldl put1 u).filter (fun w => !acc.contains w) := by
  induction b with
  | nil => intro u acc; rfl
  | cons x b ih =>
    intro u acc
    rw [List.foldl_cons, List.foldl_cons, ← ih]
    congr 1
    by_cases hx : x ∈ acc
    · have hc : (!acc.contains x) = false := by simp [hx]
      have h1 : put1 (acc ++ u.filter (fun w => !acc.contains w)) x = acc ++ u.filter (fun w => !acc.contains w) := by
        unfold put1; rw [if_pos (List.mem_append.2 (.inl hx))]
      rw [h1]
      unfold put1
      split
      · rfl
      · rw [List.filter_append, List.filter_cons, hc]; simp
    · have hc : (!acc.contains x) = true := by simp [hx]
      unfold put1
      by_cases hu : x ∈ u
      · rw [if_pos hu, if_pos (List.mem_append.2 (.inr (List.mem_filter.2 ⟨hu, hc⟩)))]
      · rw [if_neg hu, if_neg (fun h => by rcases List.mem_append.1 h with h | h; exact hx h; exact hu (List.mem_filter.1 h).1)]
        rw [List.filter_append, List.filter_cons, hc]; simp
theorem once_append (a b : List (List UInt8)) : once (a ++ b) = once a ++ (once b).filter (fun w => !(once a).contains w) := by
  rw [once_eq, List.foldl_append, ← once_eq]
  have := foldl_put1_filter b [] (once a)
  simpa [once_eq b] using this
theorem words_length (s : List UInt8) : (words s).length ≤ s.length := by
  induction h : s.length using Nat.strongRecOn generalizing s with
  | _ n ih =>
    by_cases ht : trimB s = []
    · rw [words_nil ht]; simp
    · rw [words_cons ht]
      have h1 := tailB_lt ht
      have h2 := trimB_le s
      have := ih _ (by omega) (tailB (trimB s)) rfl
      simp only [List.length_cons]; omega
theorem foldl_put1_length (l : List (List UInt8)) : ∀ acc : List (List UInt8), (l.foldl put1 acc).length ≤ acc.length + l.length := by
  induction l with
  | nil => intro acc; simp
  | cons x l ih =>
    intro acc
    rw [List.foldl_cons]
    have h1 := ih (put1 acc x)
    have h2 : (put1 acc x).length ≤ acc.length + 1 := by unfold put1; split <;> simp
    simp only [List.length_cons]; omega
theorem once_length (l : List (List UInt8)) : (once l).length ≤ l.length := by
  have := foldl_put1_length l []
  simpa [once_eq] using this
end Go.Proofs.Ytbbompmpecblgaa.WS
end
section
/- The kit's library contracts, laid at this program in plain words (wip/shelf.py). -/
namespace Go.Proofs
open Go.Shelf
def Try.lays119_ren : Go.Shelf.Ren := ⟨fun | 119 => 141 | n => n, fun | 21 => 21 | 4 => 4 | n => n, fun | n => n⟩
theorem Try.lays119 : Go.Proofs.Lays.n119 Try.prog Try.lays119_ren := {
  mixed := by kernel_rfl
  f119 := Try.func141.trans (congrArg some (by kernel_rfl))
  t4 := Try.underlying4
  a4 := Try.isAgg4
  z4 := Try.sizeOf4
  v4 := Try.zeroValue4
  t21 := Try.underlying21
  a21 := Try.isAgg21
  z21 := Try.sizeOf21
  v21 := Try.zeroValue21 }
theorem Try.utf8_ValidRune (r : Int) (w : World) :
    Calls Try.prog 141 #[.int .i32 r] w fun e w' => e = .returned (.bool (Lib.validRune r)) ∧ w' = w := Any.utf8_ValidRune Try.lays119 r w
def Try.lays137_ren : Go.Shelf.Ren := ⟨fun | 137 => 59 | 217 => 85 | 266 => 102 | n => n, fun | 9 => 9 | 5 => 5 | 3 => 3 | n => n, fun | n => n⟩
theorem Try.lays137 : Go.Proofs.Lays.n137 Try.prog Try.lays137_ren := {
  mixed := by kernel_rfl
  f137 := Try.func59.trans (congrArg some (by kernel_rfl))
  f217 := Try.func85.trans (congrArg some (by kernel_rfl))
  f266 := Try.func102.trans (congrArg some (by kernel_rfl))
  t3 := Try.underlying3
  a3 := Try.isAgg3
  z3 := Try.sizeOf3
  v3 := Try.zeroValue3
  t5 := Try.underlying5
  a5 := Try.isAgg5
  z5 := Try.sizeOf5
  v5 := Try.zeroValue5
  t9 := Try.underlying9
  a9 := Try.isAgg9
  z9 := Try.sizeOf9
  v9 := Try.zeroValue9 }
open Go.RowKit in
theorem Try.strings_IndexByte (s : ByteArray) (c : Int) (w : World) :
    Calls Try.prog 59 #[.string s, .int .u8 c] w fun e w' => e = .returned (.int .i64 (Lib.indexByte s.data.toList c.toNat.toUInt8)) ∧ w' = w := Any.strings_IndexByte Try.lays137 s c w
def Try.lays152_ren : Go.Shelf.Ren := ⟨fun | 152 => 98 | 137 => 59 | 119 => 141 | 224 => 142 | 225 => 143 | 217 => 85 | 266 => 102 | n => n, fun | 9 => 9 | 21 => 21 | 3 => 3 | 4 => 4 | 5 => 5 | 0 => 0 | 46 => 183 | n => n, fun | n => n⟩
theorem Try.lays152 : Go.Proofs.Lays.n152 Try.prog Try.lays152_ren := {
  mixed := by kernel_rfl
  f119 := Try.func141.trans (congrArg some (by kernel_rfl))
  f137 := Try.func59.trans (congrArg some (by kernel_rfl))
  f152 := Try.func98.trans (congrArg some (by kernel_rfl))
  f217 := Try.func85.trans (congrArg some (by kernel_rfl))
  f224 := Try.func142.trans (congrArg some (by kernel_rfl))
  f225 := Try.func143.trans (congrArg some (by kernel_rfl))
  f266 := Try.func102.trans (congrArg some (by kernel_rfl))
  t0 := Try.underlying0
  a0 := Try.isAgg0
  z0 := Try.sizeOf0
  v0 := Try.zeroValue0
  t3 := Try.underlying3
  a3 := Try.isAgg3
  z3 := Try.sizeOf3
  v3 := Try.zeroValue3
  t4 := Try.underlying4
  a4 := Try.isAgg4
  z4 := Try.sizeOf4
  v4 := Try.zeroValue4
  t5 := Try.underlying5
  a5 := Try.isAgg5
  z5 := Try.sizeOf5
  v5 := Try.zeroValue5
  t9 := Try.underlying9
  a9 := Try.isAgg9
  z9 := Try.sizeOf9
  v9 := Try.zeroValue9
  t21 := Try.underlying21
  a21 := Try.isAgg21
  z21 := Try.sizeOf21
  v21 := Try.zeroValue21
  t46 := Try.underlying183
  a46 := Try.isAgg183
  z46 := Try.sizeOf183
  v46 := Try.zeroValue183 }
open Go.RowKit Go.Lib in
theorem Try.strings_IndexRune_ascii (s : ByteArray) (r : Int) (w : World) (h0 : 0 ≤ r) (h1 : r < 128) :
    Calls Try.prog 98 #[.string s, .int .i32 r] w fun e w' => e = .returned (.int .i64 (Lib.indexByte s.data.toList r.toNat.toUInt8)) ∧ w' = w := Any.strings_IndexRune_ascii Try.lays152 s r w h0 h1
def Try.lays226_ren : Go.Shelf.Ren := ⟨fun | 226 => 99 | n => n, fun | 3 => 3 | 4 => 4 | n => n, fun | n => n⟩
theorem Try.lays226 : Go.Proofs.Lays.n226 Try.prog Try.lays226_ren := {
  mixed := by kernel_rfl
  f226 := Try.func99.trans (congrArg some (by kernel_rfl))
  t3 := Try.underlying3
  a3 := Try.isAgg3
  z3 := Try.sizeOf3
  v3 := Try.zeroValue3
  t4 := Try.underlying4
  a4 := Try.isAgg4
  z4 := Try.sizeOf4
  v4 := Try.zeroValue4 }
open Go.RowKit Go.Lib in
theorem Try.strings_shouldUseASCIISet (n : Int) (w : World) :
    Calls Try.prog 99 #[.int .i64 n] w fun e w' => e = .returned (.bool (decide (8 < n))) ∧ w' = w := Any.strings_shouldUseASCIISet Try.lays226 n w
def Try.lays153_ren : Go.Shelf.Ren := ⟨fun | 153 => 84 | 152 => 98 | 226 => 99 | 227 => 100 | 228 => 101 | 137 => 59 | 119 => 141 | 224 => 142 | 225 => 143 | 217 => 85 | 266 => 102 | n => n, fun | 9 => 9 | 3 => 3 | 4 => 4 | 5 => 5 | 21 => 21 | 117 => 154 | 116 => 153 | 0 => 0 | 46 => 183 | 124 => 184 | n => n, fun | n => n⟩
theorem Try.lays153 : Go.Proofs.Lays.n153 Try.prog Try.lays153_ren := {
  mixed := by kernel_rfl
  f119 := Try.func141.trans (congrArg some (by kernel_rfl))
  f137 := Try.func59.trans (congrArg some (by kernel_rfl))
  f152 := Try.func98.trans (congrArg some (by kernel_rfl))
  f153 := Try.func84.trans (congrArg some (by kernel_rfl))
  f217 := Try.func85.trans (congrArg some (by kernel_rfl))
  f224 := Try.func142.trans (congrArg some (by kernel_rfl))
  f225 := Try.func143.trans (congrArg some (by kernel_rfl))
  f226 := Try.func99.trans (congrArg some (by kernel_rfl))
  f227 := Try.func100.trans (congrArg some (by kernel_rfl))
  f228 := Try.func101.trans (congrArg some (by kernel_rfl))
  f266 := Try.func102.trans (congrArg some (by kernel_rfl))
  t0 := Try.underlying0
  a0 := Try.isAgg0
  z0 := Try.sizeOf0
  v0 := Try.zeroValue0
  t3 := Try.underlying3
  a3 := Try.isAgg3
  z3 := Try.sizeOf3
  v3 := Try.zeroValue3
  t4 := Try.underlying4
  a4 := Try.isAgg4
  z4 := Try.sizeOf4
  v4 := Try.zeroValue4
  t5 := Try.underlying5
  a5 := Try.isAgg5
  z5 := Try.sizeOf5
  v5 := Try.zeroValue5
  t9 := Try.underlying9
  a9 := Try.isAgg9
  z9 := Try.sizeOf9
  v9 := Try.zeroValue9
  t21 := Try.underlying21
  a21 := Try.isAgg21
  z21 := Try.sizeOf21
  v21 := Try.zeroValue21
  t46 := Try.underlying183
  a46 := Try.isAgg183
  z46 := Try.sizeOf183
  v46 := Try.zeroValue183
  t116 := Try.underlying153
  a116 := Try.isAgg153
  z116 := Try.sizeOf153
  t117 := Try.underlying154
  a117 := Try.isAgg154
  z117 := Try.sizeOf154
  v117 := Try.zeroValue154
  t124 := Try.underlying184
  a124 := Try.isAgg184
  z124 := Try.sizeOf184
  v124 := Try.zeroValue184 }
open Go.RowKit Go.Lib in
theorem Try.strings_IndexAny_long (hv116 : ∀ w, (zeroValue 153).run Try.prog w = .ok (.agg (Array.replicate 256 (.bool false))) w) (s chars : ByteArray) (w : World) (h2 : 2 ≤ chars.size) (h8 : 8 < s.size) (hs : s.size < 4294967281) (hcs : chars.size < 4294967281) (hascii : ∀ (j : Nat) b, chars.data.toList[j]? = some b → b.toNat < 128) :
    Calls Try.prog 84 #[.string s, .string chars] w fun e w' => e = .returned (.int .i64 (Lib.indexAny s.data.toList chars.data.toList)) ∧ w' = ((w.alloc (.cells (Lib.setCells chars.data.toList) 153)).alloc (.cells (Lib.setCells chars.data.toList) 153)) := Any.strings_IndexAny_long Try.lays153 hv116 (by kernel_rfl) s chars w h2 h8 hs hcs hascii
end Go.Proofs
end
