import Derived.RangeFuncNested
import Derived.RangeFuncLeaves
import Derived.RangeFuncBound
import Derived.RangeFuncCalls
import Derived.Deep.Draws
import Derived.Maps.AppendAt
import Derived.OwnWalkIn
import Derived.Carry
import Derived.MapKept
import Derived.Laws.OwnMore
import Derived.Deep.Slices
import Derived.Deep.Fields
import Derived.Laws.BytesArg
section
namespace Go.Proofs.YtmbhkkophkccbaaGreat.Seq
open Go Go.RowKit
set_option linter.unusedVariables false

structure Off (Y : Nat → Prop) (W W' : World) : Prop where
 os : W'.os = W.os
 tape : W'.tape = W.tape
 output : W'.output = W.output
 size : W.heap.size ≤ W'.heap.size
 block : ∀ b, b < W.heap.size → ¬ Y b → W'.heap[b]? = W.heap[b]?

theorem Off.refl (Y : Nat → Prop) (W : World) : Off Y W W := ⟨rfl, rfl, rfl, Nat.le_refl _, fun _ _ _ => rfl⟩
theorem Off.mono {Y Y' : Nat → Prop} {A B : World} (h : Off Y A B) (hy : ∀ b, b < A.heap.size → Y b → Y' b) : Off Y' A B :=
 ⟨h.os, h.tape, h.output, h.size, fun b hb hn => h.block b hb (fun y => hn (hy b hb y))⟩
theorem Off.trans {Y : Nat → Prop} {A B C : World} (h : Off Y A B) (k : Off Y B C) : Off Y A C :=
 ⟨k.os.trans h.os, k.tape.trans h.tape, k.output.trans h.output, Nat.le_trans h.size k.size, fun b hb hn => (k.block b (Nat.lt_of_lt_of_le hb h.size) hn).trans (h.block b hb hn)⟩
theorem Off.trans' {Y Y' : Nat → Prop} {A B C : World} (h : Off Y A B) (k : Off Y' B C) (hy : ∀ b, Y' b → Y b ∨ A.heap.size ≤ b) : Off Y A C :=
 ⟨k.os.trans h.os, k.tape.trans h.tape, k.output.trans h.output, Nat.le_trans h.size k.size, fun b hb hn => (k.block b (Nat.lt_of_lt_of_le hb h.size) (fun y => by rcases hy b y with y | y; exact hn y; omega)).trans (h.block b hb hn)⟩
theorem Off.alloc (Y : Nat → Prop) (W : World) (o : Obj) : Off Y W (W.alloc o) := ⟨rfl, rfl, rfl, by simp, fun b hb _ => Below.heap_alloc _ _ _ hb⟩
theorem Off.drew (Y : Nat → Prop) (W : World) : Off Y W W.drew := ⟨rfl, rfl, rfl, Nat.le_refl _, fun b hb _ => rfl⟩
theorem Off.drewN (Y : Nat → Prop) (W : World) (n : Nat) : Off Y W (W.drewN n) := ⟨rfl, rfl, rfl, Nat.le_refl _, fun b hb _ => rfl⟩
theorem Off.setCell {Y : Nat → Prop} (W : World) (p : Addr) (u : Value) (hp : Y p.block) : Off Y W (W.setCell p u) :=
 ⟨rfl, rfl, rfl, by simp [World.setCell], fun b hb hn => Below.heap_setCell _ _ _ _ (fun e => hn (e ▸ hp))⟩
theorem Off.putObj {Y : Nat → Prop} (W : World) (r : Nat) (o : Obj) (hp : Y r) : Off Y W (W.putObj r o) :=
 ⟨rfl, rfl, rfl, by simp, fun b hb hn => World.putObj_heap_other (fun e => hn (e ▸ hp))⟩
theorem Off.grown {Y : Nat → Prop} {W W' : World} {row : Option Nat} (h : W.grownBy W' row) (hr : ∀ r, row = some r → Y r) : Off Y W W' :=
 ⟨h.os, h.tape, h.output, h.size, fun b hb hn => h.block b hb (fun e => hn (hr b e.symm))⟩
theorem Off.below {Y : Nat → Prop} {B : Nat} {W W' : World} (h : Below B W W') (hy : ∀ b, b < W.heap.size → B ≤ b → Y b) : Off Y W W' :=
 ⟨h.os, h.tape, h.output, h.size, fun b hb hn => h.block b (by rcases Nat.lt_or_ge b B with h1 | h1; exact h1; exact absurd (hy b hb h1) hn)⟩
theorem Off.toBelow {Y : Nat → Prop} {B : Nat} {W W' : World} (h : Off Y W W') (hB : B ≤ W.heap.size) (hy : ∀ b, Y b → B ≤ b) : Below B W W' :=
 ⟨h.os, h.tape, h.output, h.size, fun b hb => h.block b (Nat.lt_of_lt_of_le hb hB) (fun y => by have := hy b y; omega)⟩

theorem lt_heap {W : World} {b : Nat} {o : Obj} (h : W.heap[b]? = some o) : b < W.heap.size := (Array.getElem?_eq_some_iff.1 h).1
theorem Off.keep {Y : Nat → Prop} {W W' : World} (h : Off Y W W') {b : Nat} {o : Obj} (hb : W.heap[b]? = some o) (hn : ¬ Y b) : W'.heap[b]? = some o := (h.block b (lt_heap hb) hn).trans hb
theorem heap_new {w : World} {o : Obj} {b : Nat} (h : b = w.heap.size) : (w.alloc o).heap[b]? = some o := by subst h; exact World.alloc_heap_new w o
theorem heap_old {w : World} {o o' : Obj} {b : Nat} (h : w.heap[b]? = some o') : (w.alloc o).heap[b]? = some o' := (Below.heap_alloc w o b (lt_heap h)).trans h
theorem put_other {W : World} {b D : Nat} {o : Obj} (h : b ≠ D) : (W.putObj D o).heap[b]? = W.heap[b]? := World.putObj_heap_other h
theorem cell_of {W : World} {b : Nat} {v : Value} {t : TypeId} (h : W.heap[b]? = some (.cells #[v] t (0, 0))) : W.cell? ⟨b, 0, none⟩ = some v := by simp [World.cell?, h]
theorem free_of {W : World} {b : Nat} {cs : Array Value} {t : TypeId} (h : W.heap[b]? = some (.cells cs t (0, 0))) (o : Nat) : W.frozen? ⟨b, o, none⟩ = false := by simp [World.frozen?, h]
theorem set_one {W : World} {b : Nat} {v u : Value} {t : TypeId} (h : W.heap[b]? = some (.cells #[v] t (0, 0))) : (W.setCell ⟨b, 0, none⟩ u).heap[b]? = some (.cells #[u] t (0, 0)) := by
 simp only [World.setCell, Array.getElem?_modify, h]; simp
theorem set_other {W : World} {b c : Nat} {o : Nat} {u : Value} (h : b ≠ c) : (W.setCell ⟨c, o, none⟩ u).heap[b]? = W.heap[b]? := Below.heap_setCell _ _ _ _ h
theorem own_keep {w w' : World} {base : Nat} {e : TypeId} {size : Nat} {v : Value} {n : Nat} {xs : List Value} (h : w.ownsRow base e size v n xs) (hs : ∀ g, v.ownBlock = some g → w'.heap[g]? = w.heap[g]?) : w'.ownsRow base e size v n xs := by
 obtain ⟨h1, h2⟩ := h
 refine ⟨h1, ?_⟩
 rcases h2 with h2 | ⟨g, cap, cur, rfl, hb, hh, r⟩
 ·exact .inl h2
 ·exact .inr ⟨g, cap, cur, rfl, hb, (hs g rfl).trans hh, r⟩
def Foot {ι : Type} (J : ι → (Nat → Prop) → World → Prop) : Prop :=
 (∀ k X W W', J k X W → Off (fun b => ¬ X b) W W' → J k X W') ∧ (∀ k X W b, J k X W → X b → b < W.heap.size)

def Grew (X : Nat → Prop) (W : World) (X' : Nat → Prop) : Prop := ∀ b, X' b → X b ∨ W.heap.size ≤ b
theorem Grew.refl (X : Nat → Prop) (W : World) : Grew X W X := fun _ h => .inl h
theorem Grew.trans {X X' X'' : Nat → Prop} {W W' : World} (h : Grew X W X') (k : Grew X' W' X'') (hs : W.heap.size ≤ W'.heap.size) : Grew X W X'' :=
 fun b hb => by rcases k b hb with h1 | h1; exact h b h1; exact .inr (Nat.le_trans hs h1)

def RoundR (X : Nat → Prop) (W : World) (Jt Jf : (Nat → Prop) → World → Prop) (e : Ending) (W' : World) : Prop :=
 ∃ X', Grew X W X' ∧ Off X W W' ∧ ((e = .returned (.bool true) ∧ Jt X' W') ∨ (e = .returned (.bool false) ∧ Jf X' W'))

def SeqR (X Y : Nat → Prop) (W : World) (Jd : (Nat → Prop) → World → Prop) (Js : (Nat → Prop) → World → Prop) (e : Ending) (W' : World) : Prop :=
 (∃ v, e = .returned v) ∧ ∃ X', Grew X W X' ∧ Off (fun b => X b ∨ Y b) W W' ∧ (Jd X' W' ∨ Js X' W')

def SeqC (P : Program) (gf : Nat) (lb : Array Value) (encs : List Value) (Y Z : Nat → Prop) (Wc : World → Prop) : Prop :=
 ∀ (l : Nat) (J Jx : Nat → (Nat → Prop) → World → Prop) (X : Nat → Prop) (W : World), Wc W → Foot J → Foot Jx → (∀ b, X b → ¬ Y b ∧ ¬ Z b) → J 0 X W →
  (∀ k X W (hk : k < encs.length), J k X W → YieldAt Fence.wide 0 P l #[encs[k]] W (RoundR X W (J (k + 1)) (Jx k))) →
  CallsIn Fence.wide 0 P gf (#[.func (.yield l) #[] #[]] ++ lb) W (SeqR X Y W (J encs.length) (fun X' W' => ∃ k, k < encs.length ∧ Jx k X' W'))

def bodyR (X : Nat → Prop) (W : World) (It : (Nat → Prop) → World → Prop) (Ix : Code → (Nat → Prop) → World → Prop) : Exit → Act → World → Prop
 | .normal, _, W' => ∃ X', Grew X W X' ∧ Off X W W' ∧ It X' W'
 | .ret, _, W' => ∃ X', Grew X W X' ∧ Off X W W' ∧ Ix .ret X' W'
 | .exit id, _, W' => ∃ X', Grew X W X' ∧ Off X W W' ∧ Ix (.exit id) X' W'
 | .goto t, _, W' => ∃ X', Grew X W X' ∧ Off X W W' ∧ Ix (.goto t) X' W'
 | .panic _, _, _ => False
 | .outgrown, _, _ => False

def CollD (D : Nat) : Deferred := { target := .collected D, args := #[] }

theorem wpIn_range {P : Program} {g : Operand} {pt : Tmp} {assign body : Code} {Q : Exit → Act → World → Prop} {a : Act} {w : World}
  {gf : Nat} {lb : Array Value} (hg : a.eval g = .func (.func gf) #[] lb) (eg : ∀ args w, (callFunc gf args).run P w = .ok (.enter gf args) w)
  {encs : List Value} {Y Z : Nat → Prop} {Wc : World → Prop} (hseq : SeqC P gf lb encs Y Z Wc)
  (hWc : ∀ W, Off (fun _ => False) w W → Wc W)
  (I : Nat → (Nat → Prop) → World → Prop) (Ix : Code → Nat → (Nat → Prop) → World → Prop) (hI : Foot I) (hIx : ∀ c, Foot (Ix c)) (X : Nat → Prop)
  (hX : ∀ b, X b → ¬ Y b ∧ ¬ Z b) (h0 : I 0 X w) (hYZ : ∀ b, Y b ∨ Z b → b < w.heap.size) (a₁ : Nat → Act)
  (hassign : ∀ (l k : Nat) (hk : k < encs.length) (W : World) (K : Act → World → Prop), K (a₁ k) W →
   assign.wpIn (Fence.wide.inRound l) 0 P (Exit.then K (fun _ _ _ => False)) { tmps := a.tmps.setIfInBounds pt encs[k], defers := [] } W)
  (hbody : ∀ (l k : Nat) (hk : k < encs.length) (X : Nat → Prop) (W : World), I k X W → body.wpIn (Fence.wide.inRound l) 0 P (bodyR X W (I (k + 1)) (fun c => Ix c k)) (a₁ k) W)
  (hdone : ∀ (D : Nat) (X' : Nat → Prop) (W : World), w.heap.size ≤ D → ¬ X' D → Grew X w X' → Off (fun b => X b ∨ Y b) w W → I encs.length X' W → W.heap[D]? = some (.deferred (some [])) → Q .normal { a with defers := CollD D :: a.defers } W)
  (hstop : ∀ (D : Nat) (c : Code) (k : Nat) (X' : Nat → Prop) (W : World), k < encs.length → w.heap.size ≤ D → ¬ X' D → Grew X w X' → Off (fun b => X b ∨ Y b) w W → Ix c k X' W → W.heap[D]? = some (.deferred (some [])) →
   c.wpIn Fence.wide 0 P Q { a with defers := CollD D :: a.defers } W) :
  (Code.rangeFunc g #[pt] assign body).wpIn Fence.wide 0 P Q a w := by
 refine wpIn_rangeFunc ?_
 intro fn hfn
 obtain ⟨rec, hrec⟩ : ∃ rec : LoopState → Option Code → Loop, rec = fun st pe => { state := st, pending := pe, fn, tmps := a.tmps, params := #[pt], assign, body, defers := w.heap.size } := ⟨_, rfl⟩
 obtain ⟨W1, hW1⟩ : ∃ W1, (w.alloc (.deferred (some []))).alloc (.loop (rec .ready none)) = W1 := ⟨_, rfl⟩
 have hL1 : W1.heap[w.heap.size + 1]? = some (.loop (rec .ready none)) := by
  rw [← hW1]; have := World.alloc_heap_new (w.alloc (.deferred (some []))) (.loop (rec .ready none)); rwa [World.size_alloc] at this
 have hK1 : W1.heap[w.heap.size]? = some (.deferred (some [])) := by
  rw [← hW1]; exact (Below.heap_alloc _ _ _ (by simp)).trans (World.alloc_heap_new w _)
 have hOff1 : ∀ Y', Off Y' w W1 := fun Y' => by rw [← hW1]; exact (Off.alloc _ _ _).trans (Off.alloc _ _ _)
 have hs1 : W1.heap.size = w.heap.size + 2 := by rw [← hW1]; simp
 have hI1 : I 0 X W1 := hI.1 0 X w W1 h0 (hOff1 _)
 have hXlt : ∀ b, X b → b < w.heap.size := fun b hb => hI.2 0 X w b h0 hb
 refine ⟨w.heap.size + 1, [{ target := .collected w.heap.size, args := #[] }], W1, { target := .fn (.func gf) lb, args := #[.func (.yield (w.heap.size + 1)) #[] #[]] }, W1, gf,
  #[.func (.yield (w.heap.size + 1)) #[] #[]] ++ lb, W1, ?_, ?_, ?_, ?_, fun h => by simp [Fence.wide] at h, ?_⟩
 ·rw [← hW1, hrec]; exact run_enterLoop_outer _ _ _ _ _
 ·simp only [resolve, hg]
  simp [go_sem]
 ·intro f' hf'; trivial
 ·simp [invoke, go_sem, eg]
 ·-- the two blocks of book-keeping beside the caller's own
  let Bk : (Nat → Prop) → (Nat → Prop) → Prop := fun X' X0 => ∀ b, X' b ↔ (X0 b ∨ b = w.heap.size ∨ b = w.heap.size + 1)
  let J : Nat → (Nat → Prop) → World → Prop := fun k X' W => ∃ X0, Bk X' X0 ∧ ¬ X0 w.heap.size ∧ ¬ X0 (w.heap.size + 1) ∧ Grew X w X0 ∧ I k X0 W ∧ W.heap[w.heap.size + 1]? = some (.loop (rec .ready none)) ∧ W.heap[w.heap.size]? = some (.deferred (some []))
  let Jx : Nat → (Nat → Prop) → World → Prop := fun k X' W => ∃ c X0, Bk X' X0 ∧ ¬ X0 w.heap.size ∧ ¬ X0 (w.heap.size + 1) ∧ Grew X w X0 ∧ Ix c k X0 W ∧ W.heap[w.heap.size + 1]? = some (.loop (rec .done (some c))) ∧ W.heap[w.heap.size]? = some (.deferred (some []))
  have keep : ∀ {X' X0 : Nat → Prop} {W W' : World} {o : Obj} {b : Nat}, Bk X' X0 → X' b → Off (fun b => ¬ X' b) W W' → W.heap[b]? = some o → W'.heap[b]? = some o :=
   fun {X' X0 W W' o b} hbk hx ho hb => (ho.block b (Array.getElem?_eq_some_iff.1 hb).1 (fun h => h hx)).trans hb
  have hJ : Foot J := by
   refine ⟨?_, ?_⟩
   ·rintro k X' W W' ⟨X0, hbk, n1, n2, hgr, hi, hl, hk⟩ ho
    exact ⟨X0, hbk, n1, n2, hgr, hI.1 _ _ _ _ hi (ho.mono (fun b _ hn h0 => hn ((hbk b).2 (.inl h0)))), keep hbk ((hbk _).2 (.inr (.inr rfl))) ho hl, keep hbk ((hbk _).2 (.inr (.inl rfl))) ho hk⟩
   ·rintro k X' W b ⟨X0, hbk, n1, n2, hgr, hi, hl, hk⟩ hb
    rcases (hbk b).1 hb with h | rfl | rfl
    ·exact hI.2 _ _ _ _ hi h
    ·exact (Array.getElem?_eq_some_iff.1 hk).1
    ·exact (Array.getElem?_eq_some_iff.1 hl).1
  have hJx : Foot Jx := by
   refine ⟨?_, ?_⟩
   ·rintro k X' W W' ⟨c, X0, hbk, n1, n2, hgr, hi, hl, hk⟩ ho
    exact ⟨c, X0, hbk, n1, n2, hgr, (hIx c).1 _ _ _ _ hi (ho.mono (fun b _ hn h0 => hn ((hbk b).2 (.inl h0)))), keep hbk ((hbk _).2 (.inr (.inr rfl))) ho hl, keep hbk ((hbk _).2 (.inr (.inl rfl))) ho hk⟩
   ·rintro k X' W b ⟨c, X0, hbk, n1, n2, hgr, hi, hl, hk⟩ hb
    rcases (hbk b).1 hb with h | rfl | rfl
    ·exact (hIx c).2 _ _ _ _ hi h
    ·exact (Array.getElem?_eq_some_iff.1 hk).1
    ·exact (Array.getElem?_eq_some_iff.1 hl).1
  have hXY : ∀ b, (X b ∨ b = w.heap.size ∨ b = w.heap.size + 1) → ¬ Y b ∧ ¬ Z b := by
   rintro b (h | rfl | rfl)
   ·exact hX b h
   ·exact ⟨fun h => by have := hYZ _ (.inl h); omega, fun h => by have := hYZ _ (.inr h); omega⟩
   ·exact ⟨fun h => by have := hYZ _ (.inl h); omega, fun h => by have := hYZ _ (.inr h); omega⟩
  refine (hseq (w.heap.size + 1) J Jx (fun b => X b ∨ b = w.heap.size ∨ b = w.heap.size + 1) W1 (hWc W1 (hOff1 _)) hJ hJx hXY ⟨X, fun b => Iff.rfl, fun h => by have := hXlt _ h; omega, fun h => by have := hXlt _ h; omega, Grew.refl _ _, hI1, hL1, hK1⟩ ?_).mono ?_
  ·-- one round
   rintro k X' W hk ⟨X0, hbk, n1, n2, hgr, hi, hl, hd⟩
   have hlt : w.heap.size + 1 < W.heap.size := (Array.getElem?_eq_some_iff.1 hl).1
   have hy := run_yield (P := P) (args := #[encs[k]]) hl (by rw [hrec]; rfl)
   rw [hrec] at hy
   refine ⟨fn, _, assign, body, hy, roundIn_of_wpIn hfn ?_⟩
   have hz : ((#[pt] : Array Tmp).zip #[encs[k]]).foldl (fun t (p, v) => t.setIfInBounds p v) a.tmps = a.tmps.setIfInBounds pt encs[k] := by simp
   have ha := hassign (w.heap.size + 1) k hk W (fun a₁' w₁ => ∃ w₂, (Instr.beginRound (w.heap.size + 1)).run P w₁ = .ok () w₂ ∧ body.wpIn (Fence.wide.inRound (w.heap.size + 1)) 0 P (roundPost P (w.heap.size + 1) (RoundR X' W (J (k + 1)) (Jx k))) a₁' w₂) ?_
   ·rw [← hz] at ha; exact ha
   refine ⟨_, run_beginRound hl (by rw [hrec]), ?_⟩
   have hl2 : (W.putObj (w.heap.size + 1) (.loop { rec .ready none with state := .busy })).heap[w.heap.size + 1]? = some (.loop { rec .ready none with state := .busy }) := World.putObj_heap_same hlt
   have hd2 : (W.putObj (w.heap.size + 1) (.loop { rec .ready none with state := .busy })).heap[w.heap.size]? = some (.deferred (some [])) := (World.putObj_heap_other (by omega)).trans hd
   have ho2 : Off (fun b => b = w.heap.size + 1) W (W.putObj (w.heap.size + 1) (.loop { rec .ready none with state := .busy })) := Off.putObj _ _ _ rfl
   have hi2 : I k X0 (W.putObj (w.heap.size + 1) (.loop { rec .ready none with state := .busy })) := hI.1 _ _ _ _ hi (ho2.mono (fun b _ e h => n2 (e ▸ h)))
   refine wpIn_mono (hbody _ k hk X0 _ hi2) ?_
   have fin : ∀ (jump : Option Code) (X3 : Nat → Prop) (W3 : World), Grew X0 (W.putObj (w.heap.size + 1) (.loop { rec .ready none with state := .busy })) X3 → Off X0 (W.putObj (w.heap.size + 1) (.loop { rec .ready none with state := .busy })) W3 →
     (Instr.endRound (w.heap.size + 1) jump).run P W3 = .ok (.bool jump.isNone) (W3.putObj (w.heap.size + 1) (.loop (rec (if jump.isNone then .ready else .done) jump))) ∧
     (W3.putObj (w.heap.size + 1) (.loop (rec (if jump.isNone then .ready else .done) jump))).heap[w.heap.size + 1]? = some (.loop (rec (if jump.isNone then .ready else .done) jump)) ∧
     (W3.putObj (w.heap.size + 1) (.loop (rec (if jump.isNone then .ready else .done) jump))).heap[w.heap.size]? = some (.deferred (some [])) ∧
     ¬ X3 w.heap.size ∧ ¬ X3 (w.heap.size + 1) ∧ Grew X w X3 ∧ Off X' W (W3.putObj (w.heap.size + 1) (.loop (rec (if jump.isNone then .ready else .done) jump))) ∧
     Grew X' W (fun b => X3 b ∨ b = w.heap.size ∨ b = w.heap.size + 1) ∧ Off (fun b => ¬ X3 b) W3 (W3.putObj (w.heap.size + 1) (.loop (rec (if jump.isNone then .ready else .done) jump))) := fun jump X3 W3 hg3 ho3 => by
    have hsz : (W.putObj (w.heap.size + 1) (.loop { rec .ready none with state := .busy })).heap.size = W.heap.size := World.putObj_size
    have hl3 := (ho3.block (w.heap.size + 1) (by rw [hsz]; omega) n2).trans hl2
    have hd3 := (ho3.block w.heap.size (by rw [hsz]; omega) n1).trans hd2
    have m1 : ¬ X3 w.heap.size := fun h => by rcases hg3 _ h with h | h; exact n1 h; rw [hsz] at h; omega
    have m2 : ¬ X3 (w.heap.size + 1) := fun h => by rcases hg3 _ h with h | h; exact n2 h; rw [hsz] at h; omega
    have hr := run_endRound (P := P) jump hl3
    rw [hrec] at hr ⊢
    refine ⟨hr, World.putObj_heap_same (Array.getElem?_eq_some_iff.1 hl3).1, (World.putObj_heap_other (by omega)).trans hd3, m1, m2, ?_, ?_, ?_, Off.putObj _ _ _ m2⟩
    ·exact hgr.trans (W' := W) (fun b h => by rcases hg3 b h with h | h; exact .inl h; rw [hsz] at h; exact .inr h) (by omega)
    ·have t1 : Off X' W (W.putObj (w.heap.size + 1) (.loop { rec .ready none with state := .busy })) := Off.putObj _ _ _ ((hbk _).2 (.inr (.inr rfl)))
     have t2 : Off X' (W.putObj (w.heap.size + 1) (.loop { rec .ready none with state := .busy })) W3 := ho3.mono (fun b _ h => (hbk b).2 (.inl h))
     rw [hrec] at t1 t2
     exact (t1.trans t2).trans (Off.putObj _ _ _ ((hbk _).2 (.inr (.inr rfl))))
    ·rintro b (h | rfl | rfl)
     ·rcases hg3 b h with h | h
      ·exact .inl ((hbk b).2 (.inl h))
      ·rw [hsz] at h; exact .inr h
     ·exact .inl ((hbk _).2 (.inr (.inl rfl)))
     ·exact .inl ((hbk _).2 (.inr (.inr rfl)))
   rintro e a3 W3 hp
   cases e with
   | normal =>
    obtain ⟨X3, hg3, ho3, hi3⟩ := hp
    obtain ⟨hr, hl4, hd4, m1, m2, hgx, hof, hgf, hoff⟩ := fin none X3 W3 hg3 ho3
    exact ⟨_, _, hr, _, hgf, hof, .inl ⟨rfl, X3, fun b => Iff.rfl, m1, m2, hgx, hI.1 _ _ _ _ hi3 hoff, hl4, hd4⟩⟩
   | ret =>
    obtain ⟨X3, hg3, ho3, hi3⟩ := hp
    obtain ⟨hr, hl4, hd4, m1, m2, hgx, hof, hgf, hoff⟩ := fin (some .ret) X3 W3 hg3 ho3
    exact ⟨_, _, hr, _, hgf, hof, .inr ⟨rfl, .ret, X3, fun b => Iff.rfl, m1, m2, hgx, (hIx _).1 _ _ _ _ hi3 hoff, hl4, hd4⟩⟩
   | exit id =>
    obtain ⟨X3, hg3, ho3, hi3⟩ := hp
    obtain ⟨hr, hl4, hd4, m1, m2, hgx, hof, hgf, hoff⟩ := fin (some (.exit id)) X3 W3 hg3 ho3
    exact ⟨_, _, hr, _, hgf, hof, .inr ⟨rfl, .exit id, X3, fun b => Iff.rfl, m1, m2, hgx, (hIx _).1 _ _ _ _ hi3 hoff, hl4, hd4⟩⟩
   | goto t =>
    obtain ⟨X3, hg3, ho3, hi3⟩ := hp
    obtain ⟨hr, hl4, hd4, m1, m2, hgx, hof, hgf, hoff⟩ := fin (some (.goto t)) X3 W3 hg3 ho3
    exact ⟨_, _, hr, _, hgf, hof, .inr ⟨rfl, .goto t, X3, fun b => Iff.rfl, m1, m2, hgx, (hIx _).1 _ _ _ _ hi3 hoff, hl4, hd4⟩⟩
   | panic ch => exact hp.elim
   | outgrown => exact hp.elim
  ·-- behind the iterator
   rintro e W2 ⟨⟨v, rfl⟩, X', hgX, hoff, h⟩
   have hOffw : ∀ (X0 : Nat → Prop) (o : Obj), Off (fun b => X b ∨ Y b) w (W2.putObj (w.heap.size + 1) o) := fun X0 o => by
    have t := (hOff1 (fun b => X b ∨ Y b)).trans' (hoff.trans (Off.putObj W2 (w.heap.size + 1) o (.inl (.inr (.inr rfl))))) (fun b hb => by
     rcases hb with (h | rfl | rfl) | h
     ·exact .inl (.inl h)
     ·exact .inr (Nat.le_refl _)
     ·exact .inr (by omega)
     ·exact .inl (.inr h))
    exact t
   rcases h with ⟨X0, hbk, n1, n2, hgr, hi, hl, hd⟩ | ⟨k, hk, c, X0, hbk, n1, n2, hgr, hi, hl, hd⟩
   ·refine ⟨none, _, by have := run_endLoop (P := P) hl (by rw [hrec]; simp); rw [hrec] at this; exact this, ?_⟩
    exact hdone w.heap.size X0 _ (Nat.le_refl _) n1 hgr (hOffw X0 _) (hI.1 _ _ _ _ hi (Off.putObj _ _ _ n2)) ((World.putObj_heap_other (by omega)).trans hd)
   ·refine ⟨some c, _, by have := run_endLoop (P := P) hl (by rw [hrec]; simp); rw [hrec] at this; exact this, ?_⟩
    exact hstop w.heap.size c k X0 _ hk (Nat.le_refl _) n1 hgr (hOffw X0 _) ((hIx c).1 _ _ _ _ hi (Off.putObj _ _ _ n2)) ((World.putObj_heap_other (by omega)).trans hd)
end Go.Proofs.YtmbhkkophkccbaaGreat.Seq
end
section
namespace Go.Proofs.YtmbhkkophkccbaaGreat.Mem
open Go Go.RowKit Go.Proofs.YtmbhkkophkccbaaGreat.Seq
set_option linter.unusedVariables false
set_option linter.unusedSimpArgs false

theorem bthen {w w1 w2 : World} (h : Below w.heap.size w w1) (k : Below w1.heap.size w1 w2) : Below w.heap.size w w2 := h.trans (k.mono h.size)
theorem cell_below {B : Nat} {w w' : World} (hb : Below B w w') {a : Addr} {v : Value} (h : w.cell? a = some v) (ha : a.block < B) : w'.cell? a = some v := (hb.cell ha).trans h
theorem cell_grow {w w' : World} (hb : Below w.heap.size w w') {a : Addr} {v : Value} (h : w.cell? a = some v) : w'.cell? a = some v := (hb.cell (World.block_lt_of_cell? w a h)).trans h
theorem cell_alloc {w : World} {a : Addr} {v : Value} (h : w.cell? a = some v) (o : Obj) : (w.alloc o).cell? a = some v := cell_grow ((Below.refl _ w).alloc (Nat.le_refl _) o) h
structure KeyOK {κ : Type} [DecidableEq κ] (P : Program) (kt : TypeId) (enc : κ → Value) : Prop where
 under : ∃ d, P.underlying kt = some d ∧ ∀ a b, Instr.sameNow d (enc a) (enc b) = some (decide (a = b))
 chk : ∀ empty a w, (Instr.checkKey empty 10000 kt (enc a)).run P w = .ok () w
 same : ∀ a, Instr.sameBits 10000 (enc a) (enc a) = true

theorem string_key {P : Program} {kt : TypeId} (h : P.underlying kt = some .string) : KeyOK P kt Value.string where
 under := ⟨_, h, fun a b => by
  have : (a == b) = decide (a = b) := by rw [Bool.eq_iff_iff, Go.MapKept.bytes_beq]; simp
  simp [Instr.sameNow, this]⟩
 chk := fun empty a w => by
  rw [show (10000 : Nat) = 9999 + 1 from rfl, Instr.checkKey]
  simp [run_underlying h]
 same := fun a => by
  rw [show (10000 : Nat) = 9999 + 1 from rfl]
  simp only [Instr.sameBits]
  exact (Go.MapKept.bytes_beq a a).2 rfl
theorem int_key {P : Program} {kt : TypeId} (h : P.underlying kt = some (.int .i64)) : KeyOK P kt (Value.int .i64) where
 under := ⟨_, h, fun a b => by
  have : (a == b) = decide (a = b) := by rw [Bool.eq_iff_iff]; simp
  simp [Instr.sameNow, this]⟩
 chk := fun empty a w => by
  rw [show (10000 : Nat) = 9999 + 1 from rfl, Instr.checkKey]
  simp [run_underlying h]
 same := fun a => by
  rw [show (10000 : Nat) = 9999 + 1 from rfl]
  simp [Instr.sameBits]

section
variable {κ : Type} [DecidableEq κ] {P : Program} {kt : TypeId} {enc : κ → Value}

def mk (enc : κ → Value) (x : κ × Int × Nat) : MapEntry := { key := enc x.1, val := .int .i64 x.2.1, born := x.2.2 }
def ix (k : κ) : List (κ × Int × Nat) → Nat → Option (Nat × Value)
 | [], _ => none
 | x :: es, i => if k = x.1 then some (i, .int .i64 x.2.1) else ix k es (i + 1)
def val? (k : κ) (es : List (κ × Int × Nat)) : Option Int := (es.find? (fun x => decide (k = x.1))).map (·.2.1)
theorem findNow_mk {d : TypeDesc} (hd : ∀ a b, Instr.sameNow d (enc a) (enc b) = some (decide (a = b))) (k : κ) : ∀ (es : List (κ × Int × Nat)) (i : Nat), Instr.findNow d (enc k) (es.map (mk enc)) i = some (ix k es i)
 | [], i => rfl
 | x :: es, i => by
  rw [List.map_cons, Instr.findNow]
  have : Instr.sameNow d (enc k) (mk enc x).key = some (decide (k = x.1)) := hd _ _
  rw [this]
  by_cases h : k = x.1
  ·rw [decide_eq_true h]; simp only [ix, if_pos h]; rfl
  ·rw [decide_eq_false h]; simp only [ix, if_neg h]; exact findNow_mk hd k es (i + 1)
theorem ix_val (k : κ) : ∀ (es : List (κ × Int × Nat)) (i : Nat), (ix k es i).map (·.2) = (val? k es).map (Value.int .i64)
 | [], i => rfl
 | x :: es, i => by
  unfold val?
  by_cases h : k = x.1
  ·simp [ix, List.find?_cons, h]
  ·have := ix_val k es (i + 1)
   unfold val? at this
   simp only [ix, if_neg h, this, List.find?_cons, decide_eq_false h]
theorem ix_some {k : κ} : ∀ {es : List (κ × Int × Nat)} {i j : Nat} {v : Value}, ix k es i = some (j, v) → ∃ m, j = i + m ∧ ∃ h : m < es.length, es[m].1 = k ∧ ∀ m', (h' : m' < m) → (es[m']'(by omega)).1 ≠ k
 | [], i, j, v, h => by cases h
 | x :: es, i, j, v, h => by
  unfold ix at h
  by_cases hk : k = x.1
  ·rw [if_pos hk] at h
   injection h with h; injection h with h1 h2
   exact ⟨0, by omega, by simp, hk.symm, fun m' h' => absurd h' (Nat.not_lt_zero _)⟩
  ·rw [if_neg hk] at h
   obtain ⟨m, hj, hm, he, hn⟩ := ix_some h
   refine ⟨m + 1, by omega, by simp; omega, by simpa using he, fun m' h' => ?_⟩
   match m' with
   | 0 => exact fun h => hk h.symm
   | m' + 1 => simpa using hn m' (by omega)
theorem val_none {k : κ} {es : List (κ × Int × Nat)} {i : Nat} (h : ix k es i = none) : val? k es = none := by
 have := ix_val k es i
 rw [h] at this
 cases hv : val? k es with
 | none => rfl
 | some z => rw [hv] at this; cases this

def IMap (W : World) (b : Nat) (enc : κ → Value) (f : κ → Option Int) : Prop :=
 ∃ (es : List (κ × Int × Nat)) (clock : Nat), W.heap[b]? = some (.map (es.map (mk enc)).toArray clock) ∧ ∀ k, f k = val? k es

theorem IMap.new {W : World} {b : Nat} (h : W.heap[b]? = some (.map #[] 0)) : IMap W b enc (fun _ => none) := ⟨[], 0, by simpa using h, fun _ => rfl⟩
theorem IMap.lt {W : World} {b : Nat} {f : κ → Option Int} (h : IMap W b enc f) : b < W.heap.size := by obtain ⟨es, c, h, _⟩ := h; exact lt_heap h
theorem IMap.keep {W W' : World} {b : Nat} {f : κ → Option Int} (h : IMap W b enc f) (ho : W'.heap[b]? = W.heap[b]?) : IMap W' b enc f := by obtain ⟨es, c, h, hf⟩ := h; exact ⟨es, c, ho.trans h, hf⟩

theorem IMap.lookup (K : KeyOK P kt enc) {W : World} {b : Nat} {f : κ → Option Int} (h : IMap W b enc f) {T et : TypeId} (hT : P.underlying T = some (.map kt et)) (hz : ∀ w, (zeroValue et).run P w = .ok (.int .i64 0) w) (k : κ) :
  (Instr.lookup T (.map (some b)) (enc k) false).run P W = .ok (.int .i64 ((f k).getD 0)) W := by
 obtain ⟨es, c, hb, hf⟩ := h
 obtain ⟨d, hd, hn⟩ := K.under
 have h1 := ix_val k es 0
 have hfk : (Instr.findKey kt (enc k) (es.map (mk enc)).toArray.toList).run P W = .ok (ix k es 0) W := by
  simp only [Instr.findKey, Sem.run_bind, run_underlying hd, Result.andThen]
  rw [findNow_mk hn]
  rfl
 simp only [Instr.lookup, Sem.run_bind, run_underlying hT, Result.andThen, getObj, Sem.run, hb, K.chk, Sem.run_pure]
 rw [hfk, hf k]
 cases hx : ix k es 0 with
 | none =>
  rw [val_none hx]
  simp [Result.andThen, hz]
 | some jv =>
  obtain ⟨j, v⟩ := jv
  rw [hx] at h1
  cases hv : val? k es with
  | none => rw [hv] at h1; cases h1
  | some z =>
   rw [hv] at h1
   simp only [Option.map_some, Option.some.injEq] at h1
   simp [Result.andThen, h1]

theorem IMap.update (K : KeyOK P kt enc) {W : World} {b : Nat} {f : κ → Option Int} (h : IMap W b enc f) {T et : TypeId} (hT : P.underlying T = some (.map kt et)) (k : κ) (v : Int) :
  ∃ o, (Instr.mapUpdate T (.map (some b)) (enc k) (.int .i64 v)).run P W = .ok () (W.putObj b o) ∧ IMap (W.putObj b o) b enc (fun k' => if k' = k then some v else f k') := by
 obtain ⟨es, c, hb, hf⟩ := h
 obtain ⟨d, hd, hn⟩ := K.under
 have hfk : (Instr.findKey kt (enc k) (es.map (mk enc)).toArray.toList).run P W = .ok (ix k es 0) W := by
  simp only [Instr.findKey, Sem.run_bind, run_underlying hd, Result.andThen]
  rw [findNow_mk hn]
  rfl
 have hlt := lt_heap hb
 cases hx : ix k es 0 with
 | none =>
  refine ⟨.map ((es ++ [(k, v, c)]).map (mk enc)).toArray (c + 1), ?_, es ++ [(k, v, c)], c + 1, World.putObj_heap_same hlt, fun k' => ?_⟩
  ·simp only [Instr.mapUpdate, Sem.run_bind, run_underlying hT, Result.andThen, getObj, Sem.run, hb, K.chk, Sem.run_pure]
   rw [hfk, hx]
   simp only [Result.andThen, setObj, Sem.run, hb, World.putObj]
   simp [mk]
  ·unfold val?
   rw [List.find?_append]
   show (if k' = k then some v else f k') = _
   by_cases hk : k' = k
   ·subst hk
    have := val_none hx
    unfold val? at this
    rw [Option.map_eq_none_iff] at this
    rw [this]; simp
   ·rw [if_neg hk, hf k']
    unfold val?
    cases es.find? (fun x => decide (k' = x.1)) <;> simp [hk]
 | some jv =>
  obtain ⟨j, v0⟩ := jv
  obtain ⟨m, rfl, hm, he, hne⟩ := ix_some hx
  rw [Nat.zero_add] at hx
  refine ⟨.map ((es.modify m (fun x => (k, v, x.2.2))).map (mk enc)).toArray c, ?_, es.modify m (fun x => (k, v, x.2.2)), c, World.putObj_heap_same hlt, fun k' => ?_⟩
  ·simp only [Instr.mapUpdate, Sem.run_bind, run_underlying hT, Result.andThen, getObj, Sem.run, hb, K.chk, Sem.run_pure]
   rw [hfk, hx]
   have hkey : (((es.map (mk enc)).toArray[m]?).map (·.key)).getD (enc k) = enc k := by
    simp [List.getElem?_eq_getElem hm, mk, he]
   have hstay : (Instr.keyThatStays (enc k) (enc k)).run P W = .ok (enc k) W := by
    unfold Instr.keyThatStays; rw [K.same]; rfl
   have harr : (es.map (mk enc)).toArray.modify m (fun e => { e with key := enc k, val := .int .i64 v }) = ((es.modify m (fun x => (k, v, x.2.2))).map (mk enc)).toArray := by
    apply Array.ext'
    apply List.ext_getElem?
    intro i
    simp only [Array.toList_modify, List.getElem?_modify, List.getElem?_map]
    by_cases hi : m = i
    ·subst hi
     rw [List.getElem?_eq_getElem hm]; simp [mk]
    ·simp [hi]
   simp only [Result.andThen, hkey, Sem.run_bind, hstay, setObj, Sem.run, hb, World.putObj, harr]
  ·show (if k' = k then some v else f k') = _
   rw [hf k']
   unfold val?
   clear hfk hx hf hb
   induction es generalizing m with
   | nil => simp at hm
   | cons x es ih =>
    cases m with
    | zero =>
     simp only [List.getElem_cons_zero] at he
     simp only [List.modify_zero_cons, List.find?_cons]
     by_cases hk : k' = k
     ·simp [hk]
     ·simp [hk, he]
    | succ m =>
     simp only [List.modify_succ_cons, List.find?_cons]
     have h0 : x.1 ≠ k := by simpa using hne 0 (by omega)
     by_cases hk : k' = x.1
     ·have : k' ≠ k := fun h => h0 (hk ▸ h)
      simp [hk, h0]
     ·simp only [decide_eq_false hk]
      exact ih m (by simpa using hm) (by simpa using he) (fun m' h' => by have := hne (m' + 1) (by omega); simpa using this)
end

section
variable {P : Program} {ops : Array Oper} {rest : List Oper} {o : Oper} {a : Act} {Q : Exit → Act → World → Prop}
theorem append_run (W : World) (base : Nat) (t ty e : TypeId) (z : Value) (bytes : Nat) (ht : P.underlying t = some (.slice e)) (hinfo : (P.info? e).map (fun i => (i.zero, i.size, i.bytes)) = some (some z, 1, bytes)) (hz : z.cells.size = 1)
  (v : Value) (xs : List Value) (y : Value) (h1 : y.oneCell' = true) (HO : W.ownsRow base e 1 v xs.length xs) (hbase : base ≤ W.heap.size) (hl : (xs.length + 1) * bytes ≤ 140737488355328) (hm : xs.length + 1 ≤ maxLen) :
  ∃ v1 w1, (Builtin.append_ #[t, t] ty #[v, .slice (some ⟨W.heap.size, 0, none⟩) 1 1]).run P (W.alloc (.cells #[y] e)) = .ok v1 w1 ∧ w1.ownsRow base e 1 v1 (xs ++ [y]).length (xs ++ [y]) ∧ W.grownBy w1 v.ownBlock ∧
   (∃ g cap, v1 = .slice (some ⟨g, 0, none⟩) (xs.length + 1) cap ∧ (v.ownBlock = some g ∨ W.heap.size ≤ g)) := by
 obtain ⟨i0, hi, hzz⟩ := Option.map_eq_some_iff.1 hinfo
 simp only [Prod.mk.injEq] at hzz
 obtain ⟨hz0, hz1, hz2⟩ := hzz
 obtain ⟨v1, w1, hr, h2, hg, _, hat⟩ := run_append_own_at (P := P) (W.alloc (.cells #[y] e)) base t ty e i0 z 1 bytes ht hi hz0 hz1 hz2 hz (by omega) v xs.length xs (HO.alloc _) ⟨W.heap.size, 0, none⟩ 1 1 [y] rfl (cell_one_new W y e) (by simpa using h1) hm hl (by simp; omega)
 refine ⟨v1, w1, hr, by simpa using h2, World.grownBy.trans (World.grownBy_alloc W _ _) hg, ?_⟩
 obtain ⟨g, cap, rfl⟩ : ∃ g cap, v1 = .slice (some ⟨g, 0, none⟩) (xs.length + 1) cap := by
  rcases h2.2 with ⟨_, h⟩ | ⟨g, cap, cur, rfl, _⟩
  ·omega
  ·exact ⟨g, cap, rfl⟩
 refine ⟨g, cap, rfl, ?_⟩
 rcases hat with hat | hat
 ·exact .inl hat.symm
 ·right
  simp [Value.ownBlock] at hat
  omega
theorem in_append {F : Fence} {n : Nat} (W : World) (base : Nat) (hgd : o.guard = none) (s x : Operand) (t e : TypeId) (z : Value) (bytes : Nat)
  (ho : o.op = .call { callee := .builtin .append, args := #[s, x], argTypes := #[t, t] }) (ht : P.underlying t = some (.slice e)) (hinfo : (P.info? e).map (fun i => (i.zero, i.size, i.bytes)) = some (some z, 1, bytes)) (hz : z.cells.size = 1)
  (v : Value) (xs : List Value) (y : Value) (hs : a.eval s = v) (hx : a.eval x = .slice (some ⟨W.heap.size, 0, none⟩) 1 1) (h1 : y.oneCell' = true) (HO : W.ownsRow base e 1 v xs.length xs) (hbase : base ≤ W.heap.size) (hl : (xs.length + 1) * bytes ≤ 140737488355328) (hm : xs.length + 1 ≤ maxLen)
  (h : ∀ v1 w1, w1.ownsRow base e 1 v1 (xs ++ [y]).length (xs ++ [y]) → W.grownBy w1 v.ownBlock → (∃ g cap, v1 = .slice (some ⟨g, 0, none⟩) (xs.length + 1) cap ∧ (v.ownBlock = some g ∨ W.heap.size ≤ g)) → wpListIn F n P ops Q rest (a.put o.dst v1) w1) :
  wpListIn F n P ops Q (o :: rest) a (W.alloc (.cells #[y] e)) := by
 obtain ⟨v1, w1, hrun, r1, r2, r3⟩ := append_run (P := P) W base t o.type e z bytes ht hinfo hz v xs y h1 HO hbase hl hm
 refine wpListIn_plain hgd fun K hK' => ?_
 unfold Oper.wpIn
 refine ⟨?_, ?_⟩
 ·simp [Oper.about, ho, resolve, Target.leads, Sem.run_pure]
 ·rw [Oper.semAt_plain F _ _ (by rw [ho]; intro c hc'; cases hc')]
  simp [execOp, ho, resolve, invoke, builtin, hs, hx, hrun, Result.andThen]
  exact hK' _ _ (h v1 w1 r1 r2 r3)
theorem pl_append (W : World) (base : Nat) (hgd : o.guard = none) (s x : Operand) (t e : TypeId) (z : Value) (bytes : Nat)
  (ho : o.op = .call { callee := .builtin .append, args := #[s, x], argTypes := #[t, t] }) (ht : P.underlying t = some (.slice e)) (hinfo : (P.info? e).map (fun i => (i.zero, i.size, i.bytes)) = some (some z, 1, bytes)) (hz : z.cells.size = 1)
  (v : Value) (xs : List Value) (y : Value) (hs : a.eval s = v) (hx : a.eval x = .slice (some ⟨W.heap.size, 0, none⟩) 1 1) (h1 : y.oneCell' = true) (HO : W.ownsRow base e 1 v xs.length xs) (hbase : base ≤ W.heap.size) (hl : (xs.length + 1) * bytes ≤ 140737488355328) (hm : xs.length + 1 ≤ maxLen)
  (h : ∀ v1 w1, w1.ownsRow base e 1 v1 (xs ++ [y]).length (xs ++ [y]) → W.grownBy w1 v.ownBlock → (∃ g cap, v1 = .slice (some ⟨g, 0, none⟩) (xs.length + 1) cap ∧ (v.ownBlock = some g ∨ W.heap.size ≤ g)) → wpList P ops Q rest (a.put o.dst v1) w1) :
  wpList P ops Q (o :: rest) a (W.alloc (.cells #[y] e)) := by
 obtain ⟨v1, w1, hrun, r1, r2, r3⟩ := append_run (P := P) W base t o.type e z bytes ht hinfo hz v xs y h1 HO hbase hl hm
 refine wpList_plain hgd fun K hK => ?_
 unfold Oper.wp execOp
 simp only [ho, resolve, invoke, builtin, Sem.run_bind, Sem.run_pure, Result.andThen_ok, List.map_toArray, List.map_cons, List.map_nil, hs, hx, hrun]
 exact hK _ _ (h v1 w1 r1 r2 r3)
end

def RdRow (B : Nat) (w : World) (v : Value) (sz n : Nat) (cs : List Value) : Prop :=
 ∃ A c, v = .slice A n c ∧ n ≤ c ∧ n ≤ 9223372036854775807 ∧ cs.length = n * sz ∧ (0 < cs.length → ∃ ad : Addr, A = some ad ∧ ad.block < B ∧ ∀ j u, cs[j]? = some u → w.cell? (ad.add j) = some u)
theorem RdRow.nil (B : Nat) (w : World) (sz : Nat) : RdRow B w (.slice none 0 0) sz 0 [] := ⟨none, 0, rfl, Nat.le_refl _, by omega, by simp, fun h => by simp at h⟩
theorem RdRow.below {B : Nat} {w w' : World} {v : Value} {sz n : Nat} {cs : List Value} (h : RdRow B w v sz n cs) {B' : Nat} (hb : Below B' w w') (hB : B ≤ B') : RdRow B w' v sz n cs := by
 obtain ⟨A, c, hv, h1, h2, h3, h4⟩ := h
 exact ⟨A, c, hv, h1, h2, h3, fun h0 => by
  obtain ⟨ad, e, hlt, hc⟩ := h4 h0
  refine ⟨ad, e, hlt, fun j u hj => (hb.cell (p := ad.add j) ?_).trans (hc j u hj)⟩
  have : (ad.add j).block = ad.block := by unfold Addr.add; split <;> rfl
  omega⟩
theorem RdRow.mono {B B' : Nat} {w : World} {v : Value} {sz n : Nat} {cs : List Value} (h : RdRow B w v sz n cs) (hB : B ≤ B') : RdRow B' w v sz n cs := by
 obtain ⟨A, c, hv, h1, h2, h3, h4⟩ := h
 exact ⟨A, c, hv, h1, h2, h3, fun h0 => by obtain ⟨ad, e, hlt, hc⟩ := h4 h0; exact ⟨ad, e, by omega, hc⟩⟩
theorem RdRow.of_own {w : World} {base n sz : Nat} {e : TypeId} {v : Value} {xs : List Value} (h : w.ownsRow base e sz v n xs) : RdRow w.heap.size w v sz n xs := by
 have hl := h.1
 rcases h.2 with ⟨rfl, rfl⟩ | ⟨g, cap, cur, rfl, hb, hh, hc, hm, _⟩
 ·have : xs = [] := List.eq_nil_of_length_eq_zero (by omega)
  subst this
  exact RdRow.nil _ _ _
 ·exact ⟨_, cap, rfl, hc, by simp only [maxLen] at hm; omega, hl, fun h0 => ⟨_, rfl, lt_heap hh, fun j u hj => h.cells (g := g) rfl j u hj⟩⟩
end Go.Proofs.YtmbhkkophkccbaaGreat.Mem
end
section
namespace Go.Proofs.YtmbhkkophkccbaaGreat.Rd
open Go Go.RowKit Go.Proofs.YtmbhkkophkccbaaGreat.Seq Mem
set_option linter.unusedVariables false

abbrev Elem (α : Type) := Nat → World → List Value → α → Prop
def Elem.Keeps {α : Type} (E : Elem α) : Prop := ∀ (B B' : Nat) (w w' : World) (cs : List Value) (a : α), E B w cs a → Below B' w w' → B ≤ B' → E B' w' cs a
theorem add_block (a : Addr) (n : Nat) : (a.add n).block = a.block := by unfold Addr.add; split <;> rfl

def RdL {α : Type} (E : Elem α) (sz : Nat) (B : Nat) (w : World) (v : Value) (l : List α) : Prop :=
 ∃ A c, v = .slice A l.length c ∧ l.length ≤ c ∧ c ≤ maxLen ∧ (0 < l.length → ∃ b o, A = some (⟨b, o, none⟩ : Addr) ∧ b < B ∧
  ∀ i (h : i < l.length), ∃ cs : List Value, cs.length = sz ∧ (∀ j u, cs[j]? = some u → w.cell? ⟨b, o + i * sz + j, none⟩ = some u) ∧ E B w cs l[i])

section
variable {α : Type} {E : Elem α} {sz B B' : Nat} {w w' : World} {v : Value} {l : List α}
theorem RdL.nil : RdL E sz B w (.slice none 0 0) [] := ⟨none, 0, rfl, Nat.le_refl _, by simp [maxLen], fun h => absurd h (by simp)⟩
theorem RdL.keep (hE : E.Keeps) (h : RdL E sz B w v l) (hb : Below B' w w') (hB : B ≤ B') : RdL E sz B' w' v l := by
 obtain ⟨A, c, hv, h1, h2, h3⟩ := h
 refine ⟨A, c, hv, h1, h2, fun h0 => ?_⟩
 obtain ⟨b, o, e, hlt, hc⟩ := h3 h0
 refine ⟨b, o, e, by omega, fun i hi => ?_⟩
 obtain ⟨cs, h4, h5, h6⟩ := hc i hi
 exact ⟨cs, h4, fun j u hj => (hb.cell (p := ⟨b, o + i * sz + j, none⟩) (by show b < B'; omega)).trans (h5 j u hj), hE _ _ _ _ _ _ h6 hb hB⟩
theorem RdL.below (hE : E.Keeps) (h : RdL E sz B w v l) (hb : Below w.heap.size w w') (hB : B ≤ w.heap.size) : RdL E sz w.heap.size w' v l := h.keep hE hb hB
theorem RdL.mono (hE : E.Keeps) (h : RdL E sz B w v l) (hB : B ≤ B') : RdL E sz B' w v l := h.keep hE (Below.refl _ _) hB
theorem RdL.len (h : RdL E sz B w v l) : l.length ≤ maxLen := by obtain ⟨A, c, _, h1, h2, _⟩ := h; omega
theorem RdL.form (h : RdL E sz B w v l) : ∃ A c, v = .slice A l.length c ∧ l.length ≤ c ∧ c ≤ maxLen ∧ RdL E sz B w (.slice A l.length c) l := by
 obtain ⟨A, c, rfl, h1, h2, h3⟩ := h
 exact ⟨A, c, rfl, h1, h2, A, c, rfl, h1, h2, h3⟩
theorem RdL.at_ {A : Option Addr} {n c : Nat} (h : RdL E sz B w (.slice A n c) l) {i : Nat} (hi : i < l.length) :
  ∃ (b o : Nat) (cs : List Value), A = some ⟨b, o, none⟩ ∧ b < B ∧ cs.length = sz ∧ (∀ j u, cs[j]? = some u → w.cell? ⟨b, o + i * sz + j, none⟩ = some u) ∧ E B w cs l[i] := by
 obtain ⟨A', c', hv, h1, h2, h3⟩ := h
 injection hv with e1 e2 e3
 subst e1
 obtain ⟨b, o, e, hlt, hc⟩ := h3 (by omega)
 obtain ⟨cs, h4, h5, h6⟩ := hc i hi
 exact ⟨b, o, cs, e, hlt, h4, h5, h6⟩
theorem RdL.of_own {base : Nat} {e : TypeId} {n : Nat} {xs : List Value} (h : w.ownsRow base e sz v n xs) (hl : l.length = n) (hB : ∀ g, v.ownBlock = some g → g < B)
  (hE : ∀ i (hi : i < l.length), E B w ((xs.drop (i * sz)).take sz) l[i]) : RdL E sz B w v l := by
 have hx := h.1
 rcases h.2 with ⟨rfl, rfl⟩ | ⟨g, cap, cur, rfl, hb, hh, hc, hm, hcs, ht⟩
 ·have : l = [] := List.eq_nil_of_length_eq_zero hl
  subst this
  exact RdL.nil
 ·subst hl
  refine ⟨_, cap, rfl, hc, hm, fun h0 => ⟨_, _, rfl, hB g (by simp [Value.ownBlock]), fun i hi => ⟨(xs.drop (i * sz)).take sz, ?_, fun j u hj => ?_, hE i hi⟩⟩⟩
  ·rw [List.length_take, List.length_drop, hx]
   have : (i + 1) * sz ≤ l.length * sz := Nat.mul_le_mul_right _ hi
   rw [Nat.add_mul] at this
   omega
  ·rw [List.getElem?_take] at hj
   split at hj
   ·rw [List.getElem?_drop] at hj
    have := h.cells (g := g) rfl _ _ hj
    rw [Addr.add_lit] at this
    rw [Nat.add_assoc]
    exact this
   ·cases hj
end

def leaf {α : Type} (enc : α → Value) : Elem α := fun _ _ cs a => cs = [enc a]
theorem leaf_keeps {α : Type} (enc : α → Value) : (leaf enc).Keeps := fun _ _ _ _ _ _ h _ _ => h
def strE : Elem ByteArray := fun _ _ cs s => cs = [.string s] ∧ s.size ≤ maxLen
theorem strE_keeps : strE.Keeps := fun _ _ _ _ _ _ h _ _ => h
def intE (k : IntKind) : Elem Int := fun _ _ cs z => cs = [.int k z] ∧ (Lit.int k z).wf = true
theorem intE_keeps (k : IntKind) : (intE k).Keeps := fun _ _ _ _ _ _ h _ _ => h
theorem strE_at {B : Nat} {w : World} {A : Option Addr} {n c : Nat} {l : List ByteArray} (h : RdL strE 1 B w (.slice A n c) l) {i : Nat} (hi : i < l.length) :
  ∃ b o : Nat, A = some ⟨b, o, none⟩ ∧ b < B ∧ w.cell? ⟨b, o + i, none⟩ = some (.string l[i]) ∧ l[i].size ≤ maxLen := by
 obtain ⟨b, o, cs, e, hlt, hl, hc, rfl, hm⟩ := h.at_ hi
 refine ⟨b, o, e, hlt, ?_, hm⟩
 have := hc 0 _ rfl
 rwa [Nat.mul_one, Nat.add_zero] at this
theorem intE_at {B : Nat} {w : World} {k : IntKind} {A : Option Addr} {n c : Nat} {l : List Int} (h : RdL (intE k) 1 B w (.slice A n c) l) {i : Nat} (hi : i < l.length) :
  ∃ b o : Nat, A = some ⟨b, o, none⟩ ∧ b < B ∧ w.cell? ⟨b, o + i, none⟩ = some (.int k l[i]) ∧ (Lit.int k l[i]).wf = true := by
 obtain ⟨b, o, cs, e, hlt, hl, hc, rfl, hm⟩ := h.at_ hi
 refine ⟨b, o, e, hlt, ?_, hm⟩
 have := hc 0 _ rfl
 rwa [Nat.mul_one, Nat.add_zero] at this

section
variable {H : Type} {enc : TypeId × Value → H} {P : Program} {w : World} {base : Nat} {spare : Nat → Bool} {held : Bool} {α : Type} {E : Elem α}
def Opens (enc : TypeId × Value → H) (P : Program) (w : World) (base : Nat) (spare : Nat → Bool) (held : Bool) (e : TypeId) (E : Elem α) : Prop :=
 ∀ (fuel : Nat) (cs : List Value) (x : DataW H × List MemPlace), DataW.trod enc P w base spare held fuel e cs = some x → ∃ a, E w.heap.size w cs a
theorem opens_string {e : TypeId} (he : P.underlying e = some .string) : Opens enc P w base spare held e strE := fun fuel cs x h => by
 obtain ⟨s, h1, _, h3⟩ := DataW.trod_string he h
 exact ⟨s, h1, h3⟩
theorem opens_int {e : TypeId} {k : IntKind} (he : P.underlying e = some (.int k)) : Opens enc P w base spare held e (intE k) := fun fuel cs x h => by
 obtain ⟨s, h1, _, h3⟩ := DataW.trod_int he h
 exact ⟨s, h1, h3⟩
theorem open_cells {t e : TypeId} {fuel : Nat} {cs : List Value} {x : DataW H × List MemPlace} (ht : P.underlying t = some (.slice e)) (hp : 0 < P.cellsOf e) (hE : Opens enc P w base spare held e E)
  (h : DataW.trod enc P w base spare held fuel t cs = some x) : ∃ (v : Value) (l : List α), cs = [v] ∧ RdL E (P.cellsOf e) w.heap.size w v l := by
 rcases Deep.open_slice ht h with ⟨rfl, _⟩ | ⟨a, len, cap, m, n, D, Pl, rfl, hb, hl, hm, hmm, rfl, hx⟩
 ·exact ⟨_, [], rfl, RdL.nil⟩
 ·have hlm : len ≤ m := by rw [hmm]; split <;> omega
  have key : ∀ k, k ≤ len → ∃ l : List α, l.length = k ∧ ∀ i (hi : i < l.length), ∃ cs : List Value, cs.length = P.cellsOf e ∧ (∀ j u, cs[j]? = some u → w.cell? (a.add (i * P.cellsOf e + j)) = some u) ∧ E w.heap.size w cs l[i] := by
   intro k
   induction k with
   | zero => exact fun _ => ⟨[], rfl, fun i hi => absurd hi (by simp)⟩
   | succ k ih =>
    intro hk
    obtain ⟨l, h1, h2⟩ := ih (by omega)
    obtain ⟨cs', h3, h4⟩ := hx k (by omega)
    obtain ⟨y, hy⟩ := hE _ _ _ h4
    obtain ⟨_, hcl, hat⟩ := World.cells?_some h3
    refine ⟨l ++ [y], by simp [h1], fun i hi => ?_⟩
    by_cases hil : i < l.length
    ·obtain ⟨cs, g1, g2, g3⟩ := h2 i hil
     exact ⟨cs, g1, g2, by rw [List.getElem_append_left hil]; exact g3⟩
    ·have : i = k := by simp at hi; omega
     subst this
     refine ⟨cs', hcl, fun j u hj => ?_, by rw [List.getElem_append_right (by omega)]; simp [h1]; exact hy⟩
     have hjl : j < P.cellsOf e := by have := (List.getElem?_eq_some_iff.1 hj).1; omega
     rw [← Deep.add_add, hat j hjl, hj]
  obtain ⟨l, rfl, h2⟩ := key len (Nat.le_refl _)
  refine ⟨_, l, rfl, _, cap, rfl, hl, hm, fun h0 => ?_⟩
  obtain ⟨cs', h3, _⟩ := hx 0 (by omega)
  have hblk := World.cells?_block h3 hp
  rw [add_block] at hblk
  obtain ⟨_, hcl, hat⟩ := World.cells?_some h3
  have h0c := hat 0 hp
  have hspot : a.spot = none := by
   have hv : cs'[0]? = some (cs'[0]'(by omega)) := List.getElem?_eq_getElem (by omega)
   rw [hv] at h0c
   simpa [Addr.add] using World.cell?_spot h0c
  obtain ⟨b, o, s⟩ := a
  simp only at hspot
  subst hspot
  refine ⟨b, o, rfl, hblk, fun i hi => ?_⟩
  obtain ⟨cs, g1, g2, g3⟩ := h2 i hi
  refine ⟨cs, g1, fun j u hj => ?_, g3⟩
  have := g2 j u hj
  rwa [Addr.add_lit, ← Nat.add_assoc] at this
theorem opens_slice {t e : TypeId} (sz : Nat) (ht : P.underlying t = some (.slice e)) (hc : P.cellsOf e = sz) (hp : 0 < sz) (hE : Opens enc P w base spare held e E) :
  Opens enc P w base spare held t (fun B w cs (l : List α) => ∃ v, cs = [v] ∧ RdL E sz B w v l) := fun fuel cs x h => by
 subst hc
 obtain ⟨v, l, h1, h2⟩ := open_cells ht hp hE h
 exact ⟨l, v, h1, h2⟩
theorem open_list {t e : TypeId} {r : Reach} {b0 : Nat} {v : Value} {d : DataW H} {p : List MemPlace} (sz : Nat) (ht : P.underlying t = some (.slice e)) (hc : P.cellsOf e = sz) (hp : 0 < sz) (hE : Opens enc P w base spare held e E)
  (hv : Value.okWide P w r b0 t v) (h : DataW.Trod enc P w base spare held t v d p) : ∃ l : List α, RdL E sz w.heap.size w v l := by
 obtain ⟨A, n, c, rfl⟩ := Go.WideShapes.okWide_slice ht hv
 obtain ⟨fuel, hf⟩ := h
 subst hc
 obtain ⟨v', l, h1, h2⟩ := open_cells ht hp hE hf
 simp [Value.cells] at h1
 subst h1
 exact ⟨l, h2⟩
end
end Go.Proofs.YtmbhkkophkccbaaGreat.Rd
end
section
namespace Go.Proofs.YtmbhkkophkccbaaGreat.WS
set_option linter.unusedVariables false

def isBlank (b : UInt8) : Bool := b == 9 || b == 10 || b == 12 || b == 13 || b == 32
def letterB (b : UInt8) : Bool := (65 ≤ b.toNat && b.toNat ≤ 90) || (97 ≤ b.toNat && b.toNat ≤ 122)
def digitB (b : UInt8) : Bool := 48 ≤ b.toNat && b.toNat ≤ 57
def markB (b : UInt8) : Bool := letterB b || digitB b || b == 45 || b == 95
def nameB (s : List UInt8) : Bool := decide (1 ≤ s.length) && decide (s.length ≤ 20) && (s.head?.map letterB).getD false && s.all markB
def textB (s : List UInt8) : Bool := decide (s.length ≤ 60)
def foldB (b : UInt8) : UInt8 := if 65 ≤ b.toNat ∧ b.toNat ≤ 90 then b ||| 32 else b

def trimB (s : List UInt8) : List UInt8 := s.dropWhile isBlank
def headB (s : List UInt8) : List UInt8 := s.takeWhile (fun b => !isBlank b)
def tailB (s : List UInt8) : List UInt8 := s.dropWhile (fun b => !isBlank b)
theorem tailB_le (s : List UInt8) : (tailB s).length ≤ s.length := (List.dropWhile_suffix _).length_le
theorem trimB_le (s : List UInt8) : (trimB s).length ≤ s.length := (List.dropWhile_suffix _).length_le
theorem head_tail (s : List UInt8) : headB s ++ tailB s = s := List.takeWhile_append_dropWhile
theorem trimB_head {s : List UInt8} {b : UInt8} {t : List UInt8} (h : trimB s = b :: t) : isBlank b = false := by
 have := List.head?_dropWhile_not isBlank s
 unfold trimB at h
 rw [h] at this
 simpa using this
theorem tailB_lt {s : List UInt8} (h : trimB s ≠ []) : (tailB (trimB s)).length < (trimB s).length := by
 cases hs : trimB s with
 | nil => exact absurd hs h
 | cons b t =>
  have hb := trimB_head hs
  have : tailB (b :: t) = tailB t := by unfold tailB; rw [List.dropWhile_cons]; simp [hb]
  rw [this]
  have := tailB_le t
  simp; omega

def words (s : List UInt8) : List (List UInt8) :=
 if h : trimB s = [] then [] else headB (trimB s) :: words (tailB (trimB s))
termination_by s.length
decreasing_by
 have := tailB_lt h
 have := trimB_le s
 omega

theorem words_nil {s : List UInt8} (h : trimB s = []) : words s = [] := by rw [words, dif_pos h]
theorem words_cons {s : List UInt8} (h : trimB s ≠ []) : words s = headB (trimB s) :: words (tailB (trimB s)) := by rw [words, dif_neg h]

def once (l : List (List UInt8)) : List (List UInt8) := l.foldl (fun acc w => if w ∈ acc then acc else acc ++ [w]) []
theorem once_snoc (l : List (List UInt8)) (w : List UInt8) : once (l ++ [w]) = if w ∈ once l then once l else once l ++ [w] := by
 unfold once
 rw [List.foldl_append]
 rfl
def put1 (acc : List (List UInt8)) (w : List UInt8) : List (List UInt8) := if w ∈ acc then acc else acc ++ [w]
theorem mem_put1 (acc : List (List UInt8)) (x w : List UInt8) : w ∈ put1 acc x ↔ w ∈ acc ∨ w = x := by
 unfold put1
 split
 ·rename_i h
  constructor
  ·exact .inl
  ·rintro (h1 | rfl)
   ·exact h1
   ·exact h
 ·simp
theorem mem_foldl_put1 (l : List (List UInt8)) : ∀ (acc : List (List UInt8)) (w : List UInt8), w ∈ l.foldl put1 acc ↔ w ∈ acc ∨ w ∈ l := by
 induction l with
 | nil => simp
 | cons x l ih =>
  intro acc w
  rw [List.foldl_cons, ih, mem_put1, List.mem_cons, or_assoc]
theorem once_eq (l : List (List UInt8)) : once l = l.foldl put1 [] := rfl
theorem mem_once (l : List (List UInt8)) (w : List UInt8) : w ∈ once l ↔ w ∈ l := by
 rw [once_eq, mem_foldl_put1]; simp
theorem foldl_put1_filter (b : List (List UInt8)) : ∀ (u acc : List (List UInt8)),
  b.foldl put1 (acc ++ u.filter (fun w => !acc.contains w)) = acc ++ (b.foldl put1 u).filter (fun w => !acc.contains w) := by
 induction b with
 | nil => intro u acc; rfl
 | cons x b ih =>
  intro u acc
  rw [List.foldl_cons, List.foldl_cons, ← ih]
  congr 1
  by_cases hx : x ∈ acc
  ·have hc : (!acc.contains x) = false := by simp [hx]
   have h1 : put1 (acc ++ u.filter (fun w => !acc.contains w)) x = acc ++ u.filter (fun w => !acc.contains w) := by
    unfold put1; rw [if_pos (List.mem_append.2 (.inl hx))]
   rw [h1]
   unfold put1
   split
   ·rfl
   ·rw [List.filter_append, List.filter_cons, hc]; simp
  ·have hc : (!acc.contains x) = true := by simp [hx]
   unfold put1
   by_cases hu : x ∈ u
   ·rw [if_pos hu, if_pos (List.mem_append.2 (.inr (List.mem_filter.2 ⟨hu, hc⟩)))]
   ·rw [if_neg hu, if_neg (fun h => by rcases List.mem_append.1 h with h | h; exact hx h; exact hu (List.mem_filter.1 h).1)]
    rw [List.filter_append, List.filter_cons, hc]; simp
theorem once_append (a b : List (List UInt8)) : once (a ++ b) = once a ++ (once b).filter (fun w => !(once a).contains w) := by
 rw [once_eq, List.foldl_append, ← once_eq]
 have := foldl_put1_filter b [] (once a)
 simpa [once_eq b] using this
theorem words_length (s : List UInt8) : (words s).length ≤ s.length := by
 induction h : s.length using Nat.strongRecOn generalizing s with
 | _ n ih =>
  by_cases ht : trimB s = []
  ·rw [words_nil ht]; simp
  ·rw [words_cons ht]
   have h1 := tailB_lt ht
   have h2 := trimB_le s
   have := ih _ (by omega) (tailB (trimB s)) rfl
   simp only [List.length_cons]; omega
theorem foldl_put1_length (l : List (List UInt8)) : ∀ acc : List (List UInt8), (l.foldl put1 acc).length ≤ acc.length + l.length := by
 induction l with
 | nil => intro acc; simp
 | cons x l ih =>
  intro acc
  rw [List.foldl_cons]
  have h1 := ih (put1 acc x)
  have h2 : (put1 acc x).length ≤ acc.length + 1 := by unfold put1; split <;> simp
  simp only [List.length_cons]; omega
theorem once_length (l : List (List UInt8)) : (once l).length ≤ l.length := by
 have := foldl_put1_length l []
 simpa [once_eq] using this
end Go.Proofs.YtmbhkkophkccbaaGreat.WS
end
section
namespace Go.Proofs.YtmbhkkophkccbaaGreat.FS
open Go.Proofs.YtmbhkkophkccbaaGreat.WS
set_option linter.unusedVariables false

structure Av where
 name : ByteArray
 value : ByteArray
deriving DecidableEq, Inhabited
structure Nd where
 kind : Int := 0
 name : ByteArray := ⟨#[]⟩
 text : ByteArray := ⟨#[]⟩
 attrs : List Av := []
 parent : Int := 0
 kids : List Int := []
deriving DecidableEq, Inhabited
abbrev Fo := List Nd

def attrsB (l : List Av) : Bool := l.all (fun a => nameB a.name.data.toList && textB a.value.data.toList) && decide ((l.map (·.name.data.toList)).Nodup) && decide (l.length ≤ 8)
def plainB (n : Nd) : Bool :=
 if n.kind = 0 then decide (n.name.size = 0) && decide (n.text.size = 0) && decide (n.attrs = [])
 else if n.kind = 1 then nameB n.name.data.toList && decide (n.text.size = 0) && attrsB n.attrs
 else if n.kind = 2 ∨ n.kind = 3 then decide (n.name.size = 0) && textB n.text.data.toList && decide (n.attrs = []) && decide (n.kids = [])
 else false
def at_ (f : Fo) (i : Int) : Nd := if 0 ≤ i then f.getD i.toNat {} else {}
def isNode (f : Fo) (i : Int) : Bool := decide (0 ≤ i) && decide (i < f.length)
def elems (f : Fo) (l : List Int) : Nat := l.countP (fun k => (at_ f k).kind == 1)
def kidsB (f : Fo) (id : Nat) (n : Nd) : Bool :=
 n.kids.all (fun k => isNode f k && decide ((at_ f k).parent = id)) && (decide (id ≠ 0) || (n.kids.all (fun k => (at_ f k).kind != 2) && decide (elems f n.kids ≤ 1)))
def known (f : Fo) (i : Int) : Nat := (f.map (fun n => n.kids.count i)).sum
def parentB (f : Fo) (id : Nat) (n : Nd) : Bool := decide (-1 ≤ n.parent) && decide (n.parent < f.length) && (decide (n.parent < 0) || decide (known f id = 1))
def familyB (f : Fo) : Bool := (List.range f.length).all (fun id => kidsB f id (at_ f id)) && (List.range f.length).all (fun id => parentB f id (at_ f id))
def Up (f : Fo) : Nat → Int → Prop
 | 0, i => i < 0
 | n + 1, i => 0 ≤ i ∧ Up f n (at_ f i).parent
def Reach (f : Fo) : Nat → Int → Int → Prop
 | 0, i, j => i = j
 | n + 1, i, j => 0 ≤ i ∧ Reach f n (at_ f i).parent j
theorem Up.unique {f : Fo} : ∀ {n m : Nat} {i : Int}, Up f n i → Up f m i → n = m
 | 0, 0, _, _, _ => rfl
 | 0, m + 1, i, h, k => by have := k.1; have : i < 0 := h; omega
 | n + 1, 0, i, h, k => by have := h.1; have : i < 0 := k; omega
 | n + 1, m + 1, i, h, k => by rw [Up.unique h.2 k.2]
theorem Up.reach {f : Fo} : ∀ {m n : Nat} {i j : Int}, Up f n i → Reach f m i j → m ≤ n ∧ Up f (n - m) j
 | 0, n, i, j, h, r => by cases r; exact ⟨Nat.zero_le _, h⟩
 | m + 1, 0, i, j, h, r => by have := r.1; have : i < 0 := h; omega
 | m + 1, n + 1, i, j, h, r => by
  obtain ⟨h1, h2⟩ := Up.reach h.2 r.2
  exact ⟨by omega, by rw [Nat.add_sub_add_right]; exact h2⟩
theorem Reach.snoc {f : Fo} : ∀ {m : Nat} {i j : Int}, Reach f m i j → 0 ≤ j → Reach f (m + 1) i (at_ f j).parent
 | 0, i, j, r, h => by cases r; exact ⟨h, rfl⟩
 | m + 1, i, j, r, h => ⟨r.1, Reach.snoc r.2 h⟩
theorem no_cycle {f : Fo} {m : Nat} {i : Int} (r : Reach f (m + 1) i i) : ¬ ∃ n, Up f n i := by
 rintro ⟨n, h⟩
 obtain ⟨h1, h2⟩ := h.reach r
 have := h.unique h2
 omega
def climbsP (f : Fo) : Prop := ∀ i : Nat, i < f.length → ∃ n, Up f n i
noncomputable def climbsB (f : Fo) : Bool := @decide (climbsP f) (Classical.propDecidable _)
theorem climbs_true {f : Fo} (h : climbsP f) : climbsB f = true := @decide_eq_true _ (Classical.propDecidable _) h
theorem climbs_false {f : Fo} (h : ¬ climbsP f) : climbsB f = false := @decide_eq_false _ (Classical.propDecidable _) h
theorem climbs_iff {f : Fo} : climbsB f = true ↔ climbsP f := ⟨fun h => @of_decide_eq_true _ (Classical.propDecidable _) h, climbs_true⟩
noncomputable def mayB (f : Fo) : Bool :=
 decide (1 ≤ f.length) && decide (f.length ≤ 60) && decide ((at_ f 0).parent = -1) && (List.range f.length).all (fun id => plainB (at_ f id) && (decide ((at_ f id).kind = 0) == decide (id = 0))) && familyB f && climbsB f
end Go.Proofs.YtmbhkkophkccbaaGreat.FS
end
