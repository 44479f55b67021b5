import Derived.Test.YtmbhkkophkccbaaGreatC01
import Derived.Test.YtmbhkkophkccbaaGreatC02
import Derived.Test.YtmbhkkophkccbaaGreatC05
section
namespace Go.Proofs.YtmbhkkophkccbaaGreat.SeqR
open Go Go.RowKit Go.Proofs.YtmbhkkophkccbaaGreat.Seq
set_option linter.unusedVariables false

def FootR {ι : Type} (R : Nat → Prop) (J : ι → (Nat → Prop) → World → Prop) : Prop :=
 (∀ k X W W', J k X W → Off (fun b => ¬ X b ∧ ¬ R b) W W' → J k X W') ∧ (∀ k X W b, J k X W → X b → b < W.heap.size)
theorem Foot.toR {ι : Type} {R : Nat → Prop} {J : ι → (Nat → Prop) → World → Prop} (h : Foot J) : FootR R J := ⟨fun k X W W' hj ho => h.1 k X W W' hj (ho.mono (fun b _ hb => hb.1)), h.2⟩
def SeqCR (P : Program) (gf : Nat) (lb : Array Value) (encs : List Value) (Y Z R : Nat → Prop) (Wc : World → Prop) : Prop :=
 ∀ (l : Nat) (J Jx : Nat → (Nat → Prop) → World → Prop) (X : Nat → Prop) (W : World), Wc W → FootR R J → FootR R Jx → (∀ b, X b → ¬ Y b ∧ ¬ Z b) → J 0 X W →
  (∀ k X W (hk : k < encs.length), J k X W → YieldAt Fence.wide 0 P l #[encs[k]] W (RoundR X W (J (k + 1)) (Jx k))) →
  CallsIn Fence.wide 0 P gf (#[.func (.yield l) #[] #[]] ++ lb) W (SeqR X Y W (J encs.length) (fun X' W' => ∃ k, k < encs.length ∧ Jx k X' W'))

theorem SeqCR.plain {P : Program} {gf : Nat} {lb : Array Value} {encs : List Value} {Y Z R : Nat → Prop} {Wc : World → Prop} (h : SeqCR P gf lb encs Y Z R Wc) : SeqC P gf lb encs Y Z Wc :=
 fun l J Jx X W hW hJ hJx hX h0 hY => h l J Jx X W hW (Foot.toR hJ) (Foot.toR hJx) hX h0 hY

theorem wpIn_rangeR {P : Program} {g : Operand} {pt : Tmp} {assign body : Code} {Q : Exit → Act → World → Prop} {a : Act} {w : World}
  {gf : Nat} {lb : Array Value} (hg : a.eval g = .func (.func gf) #[] lb) (eg : ∀ args w, (callFunc gf args).run P w = .ok (.enter gf args) w)
  {encs : List Value} {Y Z R : Nat → Prop} {Wc : World → Prop} (hseq : SeqCR P gf lb encs Y Z R Wc)
  (hWc : ∀ W, Off (fun _ => False) w W → Wc W)
  (I : Nat → (Nat → Prop) → World → Prop) (Ix : Code → Nat → (Nat → Prop) → World → Prop) (hI : FootR R I) (hIx : ∀ c, FootR R (Ix c)) (X : Nat → Prop)
  (hX : ∀ b, X b → ¬ Y b ∧ ¬ Z b) (h0 : I 0 X w) (hYZ : ∀ b, Y b ∨ Z b → b < w.heap.size) (hR : ∀ b, R b → b < w.heap.size) (a₁ : Nat → Act)
  (hassign : ∀ (l k : Nat) (hk : k < encs.length) (W : World) (K : Act → World → Prop), K (a₁ k) W →
   assign.wpIn (Fence.wide.inRound l) 0 P (Exit.then K (fun _ _ _ => False)) { tmps := a.tmps.setIfInBounds pt encs[k], defers := [] } W)
  (hbody : ∀ (l k : Nat) (hk : k < encs.length) (X : Nat → Prop) (W : World), I k X W → body.wpIn (Fence.wide.inRound l) 0 P (bodyR X W (I (k + 1)) (fun c => Ix c k)) (a₁ k) W)
  (hdone : ∀ (D : Nat) (X' : Nat → Prop) (W : World), w.heap.size ≤ D → ¬ X' D → Grew X w X' → Off (fun b => X b ∨ Y b) w W → I encs.length X' W → W.heap[D]? = some (.deferred (some [])) → Q .normal { a with defers := CollD D :: a.defers } W)
  (hstop : ∀ (D : Nat) (c : Code) (k : Nat) (X' : Nat → Prop) (W : World), k < encs.length → w.heap.size ≤ D → ¬ X' D → Grew X w X' → Off (fun b => X b ∨ Y b) w W → Ix c k X' W → W.heap[D]? = some (.deferred (some [])) →
   c.wpIn Fence.wide 0 P Q { a with defers := CollD D :: a.defers } W) :
  (Code.rangeFunc g #[pt] assign body).wpIn Fence.wide 0 P Q a w := by
 refine wpIn_rangeFunc ?_
 intro fn hfn
 obtain ⟨rec, hrec⟩ : ∃ rec : LoopState → Option Code → Loop, rec = fun st pe => { state := st, pending := pe, fn, tmps := a.tmps, params := #[pt], assign, body, defers := w.heap.size } := ⟨_, rfl⟩
 obtain ⟨W1, hW1⟩ : ∃ W1, (w.alloc (.deferred (some []))).alloc (.loop (rec .ready none)) = W1 := ⟨_, rfl⟩
 have hL1 : W1.heap[w.heap.size + 1]? = some (.loop (rec .ready none)) := by
  rw [← hW1]; have := World.alloc_heap_new (w.alloc (.deferred (some []))) (.loop (rec .ready none)); rwa [World.size_alloc] at this
 have hK1 : W1.heap[w.heap.size]? = some (.deferred (some [])) := by
  rw [← hW1]; exact (Below.heap_alloc _ _ _ (by simp)).trans (World.alloc_heap_new w _)
 have hOff1 : ∀ Y', Off Y' w W1 := fun Y' => by rw [← hW1]; exact (Off.alloc _ _ _).trans (Off.alloc _ _ _)
 have hs1 : W1.heap.size = w.heap.size + 2 := by rw [← hW1]; simp
 have hI1 : I 0 X W1 := hI.1 0 X w W1 h0 (hOff1 _)
 have hXlt : ∀ b, X b → b < w.heap.size := fun b hb => hI.2 0 X w b h0 hb
 refine ⟨w.heap.size + 1, [{ target := .collected w.heap.size, args := #[] }], W1, { target := .fn (.func gf) lb, args := #[.func (.yield (w.heap.size + 1)) #[] #[]] }, W1, gf,
  #[.func (.yield (w.heap.size + 1)) #[] #[]] ++ lb, W1, ?_, ?_, ?_, ?_, fun h => by simp [Fence.wide] at h, ?_⟩
 ·rw [← hW1, hrec]; exact run_enterLoop_outer _ _ _ _ _
 ·simp only [resolve, hg]
  simp [go_sem]
 ·intro f' hf'; trivial
 ·simp [invoke, go_sem, eg]
 ·-- the two blocks of book-keeping beside the caller's own
  let Bk : (Nat → Prop) → (Nat → Prop) → Prop := fun X' X0 => ∀ b, X' b ↔ (X0 b ∨ b = w.heap.size ∨ b = w.heap.size + 1)
  let J : Nat → (Nat → Prop) → World → Prop := fun k X' W => ∃ X0, Bk X' X0 ∧ ¬ X0 w.heap.size ∧ ¬ X0 (w.heap.size + 1) ∧ Grew X w X0 ∧ I k X0 W ∧ W.heap[w.heap.size + 1]? = some (.loop (rec .ready none)) ∧ W.heap[w.heap.size]? = some (.deferred (some []))
  let Jx : Nat → (Nat → Prop) → World → Prop := fun k X' W => ∃ c X0, Bk X' X0 ∧ ¬ X0 w.heap.size ∧ ¬ X0 (w.heap.size + 1) ∧ Grew X w X0 ∧ Ix c k X0 W ∧ W.heap[w.heap.size + 1]? = some (.loop (rec .done (some c))) ∧ W.heap[w.heap.size]? = some (.deferred (some []))
  have keep : ∀ {X' X0 : Nat → Prop} {W W' : World} {o : Obj} {b : Nat}, Bk X' X0 → X' b → Off (fun b => ¬ X' b ∧ ¬ R b) W W' → W.heap[b]? = some o → W'.heap[b]? = some o :=
   fun {X' X0 W W' o b} hbk hx ho hb => (ho.block b (Array.getElem?_eq_some_iff.1 hb).1 (fun h => h.1 hx)).trans hb
  have hJ : FootR R J := by
   refine ⟨?_, ?_⟩
   ·rintro k X' W W' ⟨X0, hbk, n1, n2, hgr, hi, hl, hk⟩ ho
    exact ⟨X0, hbk, n1, n2, hgr, hI.1 _ _ _ _ hi (ho.mono (fun b _ hn => ⟨fun h0 => hn.1 ((hbk b).2 (.inl h0)), hn.2⟩)), keep hbk ((hbk _).2 (.inr (.inr rfl))) ho hl, keep hbk ((hbk _).2 (.inr (.inl rfl))) ho hk⟩
   ·rintro k X' W b ⟨X0, hbk, n1, n2, hgr, hi, hl, hk⟩ hb
    rcases (hbk b).1 hb with h | rfl | rfl
    ·exact hI.2 _ _ _ _ hi h
    ·exact (Array.getElem?_eq_some_iff.1 hk).1
    ·exact (Array.getElem?_eq_some_iff.1 hl).1
  have hJx : FootR R Jx := by
   refine ⟨?_, ?_⟩
   ·rintro k X' W W' ⟨c, X0, hbk, n1, n2, hgr, hi, hl, hk⟩ ho
    exact ⟨c, X0, hbk, n1, n2, hgr, (hIx c).1 _ _ _ _ hi (ho.mono (fun b _ hn => ⟨fun h0 => hn.1 ((hbk b).2 (.inl h0)), hn.2⟩)), keep hbk ((hbk _).2 (.inr (.inr rfl))) ho hl, keep hbk ((hbk _).2 (.inr (.inl rfl))) ho hk⟩
   ·rintro k X' W b ⟨c, X0, hbk, n1, n2, hgr, hi, hl, hk⟩ hb
    rcases (hbk b).1 hb with h | rfl | rfl
    ·exact (hIx c).2 _ _ _ _ hi h
    ·exact (Array.getElem?_eq_some_iff.1 hk).1
    ·exact (Array.getElem?_eq_some_iff.1 hl).1
  have hXY : ∀ b, (X b ∨ b = w.heap.size ∨ b = w.heap.size + 1) → ¬ Y b ∧ ¬ Z b := by
   rintro b (h | rfl | rfl)
   ·exact hX b h
   ·exact ⟨fun h => by have := hYZ _ (.inl h); omega, fun h => by have := hYZ _ (.inr h); omega⟩
   ·exact ⟨fun h => by have := hYZ _ (.inl h); omega, fun h => by have := hYZ _ (.inr h); omega⟩
  refine (hseq (w.heap.size + 1) J Jx (fun b => X b ∨ b = w.heap.size ∨ b = w.heap.size + 1) W1 (hWc W1 (hOff1 _)) hJ hJx hXY ⟨X, fun b => Iff.rfl, fun h => by have := hXlt _ h; omega, fun h => by have := hXlt _ h; omega, Grew.refl _ _, hI1, hL1, hK1⟩ ?_).mono ?_
  ·-- one round
   rintro k X' W hk ⟨X0, hbk, n1, n2, hgr, hi, hl, hd⟩
   have hlt : w.heap.size + 1 < W.heap.size := (Array.getElem?_eq_some_iff.1 hl).1
   have hy := run_yield (P := P) (args := #[encs[k]]) hl (by rw [hrec]; rfl)
   rw [hrec] at hy
   refine ⟨fn, _, assign, body, hy, roundIn_of_wpIn hfn ?_⟩
   have hz : ((#[pt] : Array Tmp).zip #[encs[k]]).foldl (fun t (p, v) => t.setIfInBounds p v) a.tmps = a.tmps.setIfInBounds pt encs[k] := by simp
   have ha := hassign (w.heap.size + 1) k hk W (fun a₁' w₁ => ∃ w₂, (Instr.beginRound (w.heap.size + 1)).run P w₁ = .ok () w₂ ∧ body.wpIn (Fence.wide.inRound (w.heap.size + 1)) 0 P (roundPost P (w.heap.size + 1) (RoundR X' W (J (k + 1)) (Jx k))) a₁' w₂) ?_
   ·rw [← hz] at ha; exact ha
   refine ⟨_, run_beginRound hl (by rw [hrec]), ?_⟩
   have hl2 : (W.putObj (w.heap.size + 1) (.loop { rec .ready none with state := .busy })).heap[w.heap.size + 1]? = some (.loop { rec .ready none with state := .busy }) := World.putObj_heap_same hlt
   have hd2 : (W.putObj (w.heap.size + 1) (.loop { rec .ready none with state := .busy })).heap[w.heap.size]? = some (.deferred (some [])) := (World.putObj_heap_other (by omega)).trans hd
   have ho2 : Off (fun b => b = w.heap.size + 1) W (W.putObj (w.heap.size + 1) (.loop { rec .ready none with state := .busy })) := Off.putObj _ _ _ rfl
   have hi2 : I k X0 (W.putObj (w.heap.size + 1) (.loop { rec .ready none with state := .busy })) := hI.1 _ _ _ _ hi (ho2.mono (fun b _ e => ⟨fun h => n2 (e ▸ h), fun h => by have := hR b h; omega⟩))
   refine wpIn_mono (hbody _ k hk X0 _ hi2) ?_
   have fin : ∀ (jump : Option Code) (X3 : Nat → Prop) (W3 : World), Grew X0 (W.putObj (w.heap.size + 1) (.loop { rec .ready none with state := .busy })) X3 → Off X0 (W.putObj (w.heap.size + 1) (.loop { rec .ready none with state := .busy })) W3 →
     (Instr.endRound (w.heap.size + 1) jump).run P W3 = .ok (.bool jump.isNone) (W3.putObj (w.heap.size + 1) (.loop (rec (if jump.isNone then .ready else .done) jump))) ∧
     (W3.putObj (w.heap.size + 1) (.loop (rec (if jump.isNone then .ready else .done) jump))).heap[w.heap.size + 1]? = some (.loop (rec (if jump.isNone then .ready else .done) jump)) ∧
     (W3.putObj (w.heap.size + 1) (.loop (rec (if jump.isNone then .ready else .done) jump))).heap[w.heap.size]? = some (.deferred (some [])) ∧
     ¬ X3 w.heap.size ∧ ¬ X3 (w.heap.size + 1) ∧ Grew X w X3 ∧ Off X' W (W3.putObj (w.heap.size + 1) (.loop (rec (if jump.isNone then .ready else .done) jump))) ∧
     Grew X' W (fun b => X3 b ∨ b = w.heap.size ∨ b = w.heap.size + 1) ∧ Off (fun b => ¬ X3 b ∧ ¬ R b) W3 (W3.putObj (w.heap.size + 1) (.loop (rec (if jump.isNone then .ready else .done) jump))) := fun jump X3 W3 hg3 ho3 => by
    have hsz : (W.putObj (w.heap.size + 1) (.loop { rec .ready none with state := .busy })).heap.size = W.heap.size := World.putObj_size
    have hl3 := (ho3.block (w.heap.size + 1) (by rw [hsz]; omega) n2).trans hl2
    have hd3 := (ho3.block w.heap.size (by rw [hsz]; omega) n1).trans hd2
    have m1 : ¬ X3 w.heap.size := fun h => by rcases hg3 _ h with h | h; exact n1 h; rw [hsz] at h; omega
    have m2 : ¬ X3 (w.heap.size + 1) := fun h => by rcases hg3 _ h with h | h; exact n2 h; rw [hsz] at h; omega
    have hr := run_endRound (P := P) jump hl3
    rw [hrec] at hr ⊢
    refine ⟨hr, World.putObj_heap_same (Array.getElem?_eq_some_iff.1 hl3).1, (World.putObj_heap_other (by omega)).trans hd3, m1, m2, ?_, ?_, ?_, Off.putObj _ _ _ ⟨m2, fun h => by have := hR _ h; omega⟩⟩
    ·exact hgr.trans (W' := W) (fun b h => by rcases hg3 b h with h | h; exact .inl h; rw [hsz] at h; exact .inr h) (by omega)
    ·have t1 : Off X' W (W.putObj (w.heap.size + 1) (.loop { rec .ready none with state := .busy })) := Off.putObj _ _ _ ((hbk _).2 (.inr (.inr rfl)))
     have t2 : Off X' (W.putObj (w.heap.size + 1) (.loop { rec .ready none with state := .busy })) W3 := ho3.mono (fun b _ h => (hbk b).2 (.inl h))
     rw [hrec] at t1 t2
     exact (t1.trans t2).trans (Off.putObj _ _ _ ((hbk _).2 (.inr (.inr rfl))))
    ·rintro b (h | rfl | rfl)
     ·rcases hg3 b h with h | h
      ·exact .inl ((hbk b).2 (.inl h))
      ·rw [hsz] at h; exact .inr h
     ·exact .inl ((hbk _).2 (.inr (.inl rfl)))
     ·exact .inl ((hbk _).2 (.inr (.inr rfl)))
   rintro e a3 W3 hp
   cases e with
   | normal =>
    obtain ⟨X3, hg3, ho3, hi3⟩ := hp
    obtain ⟨hr, hl4, hd4, m1, m2, hgx, hof, hgf, hoff⟩ := fin none X3 W3 hg3 ho3
    exact ⟨_, _, hr, _, hgf, hof, .inl ⟨rfl, X3, fun b => Iff.rfl, m1, m2, hgx, hI.1 _ _ _ _ hi3 hoff, hl4, hd4⟩⟩
   | ret =>
    obtain ⟨X3, hg3, ho3, hi3⟩ := hp
    obtain ⟨hr, hl4, hd4, m1, m2, hgx, hof, hgf, hoff⟩ := fin (some .ret) X3 W3 hg3 ho3
    exact ⟨_, _, hr, _, hgf, hof, .inr ⟨rfl, .ret, X3, fun b => Iff.rfl, m1, m2, hgx, (hIx _).1 _ _ _ _ hi3 hoff, hl4, hd4⟩⟩
   | exit id =>
    obtain ⟨X3, hg3, ho3, hi3⟩ := hp
    obtain ⟨hr, hl4, hd4, m1, m2, hgx, hof, hgf, hoff⟩ := fin (some (.exit id)) X3 W3 hg3 ho3
    exact ⟨_, _, hr, _, hgf, hof, .inr ⟨rfl, .exit id, X3, fun b => Iff.rfl, m1, m2, hgx, (hIx _).1 _ _ _ _ hi3 hoff, hl4, hd4⟩⟩
   | goto t =>
    obtain ⟨X3, hg3, ho3, hi3⟩ := hp
    obtain ⟨hr, hl4, hd4, m1, m2, hgx, hof, hgf, hoff⟩ := fin (some (.goto t)) X3 W3 hg3 ho3
    exact ⟨_, _, hr, _, hgf, hof, .inr ⟨rfl, .goto t, X3, fun b => Iff.rfl, m1, m2, hgx, (hIx _).1 _ _ _ _ hi3 hoff, hl4, hd4⟩⟩
   | panic ch => exact hp.elim
   | outgrown => exact hp.elim
  ·-- behind the iterator
   rintro e W2 ⟨⟨v, rfl⟩, X', hgX, hoff, h⟩
   have hOffw : ∀ (X0 : Nat → Prop) (o : Obj), Off (fun b => X b ∨ Y b) w (W2.putObj (w.heap.size + 1) o) := fun X0 o => by
    have t := (hOff1 (fun b => X b ∨ Y b)).trans' (hoff.trans (Off.putObj W2 (w.heap.size + 1) o (.inl (.inr (.inr rfl))))) (fun b hb => by
     rcases hb with (h | rfl | rfl) | h
     ·exact .inl (.inl h)
     ·exact .inr (Nat.le_refl _)
     ·exact .inr (by omega)
     ·exact .inl (.inr h))
    exact t
   rcases h with ⟨X0, hbk, n1, n2, hgr, hi, hl, hd⟩ | ⟨k, hk, c, X0, hbk, n1, n2, hgr, hi, hl, hd⟩
   ·refine ⟨none, _, by have := run_endLoop (P := P) hl (by rw [hrec]; simp); rw [hrec] at this; exact this, ?_⟩
    exact hdone w.heap.size X0 _ (Nat.le_refl _) n1 hgr (hOffw X0 _) (hI.1 _ _ _ _ hi (Off.putObj _ _ _ ⟨n2, fun h => by have := hR _ h; omega⟩)) ((World.putObj_heap_other (by omega)).trans hd)
   ·refine ⟨some c, _, by have := run_endLoop (P := P) hl (by rw [hrec]; simp); rw [hrec] at this; exact this, ?_⟩
    exact hstop w.heap.size c k X0 _ hk (Nat.le_refl _) n1 hgr (hOffw X0 _) ((hIx c).1 _ _ _ _ hi (Off.putObj _ _ _ ⟨n2, fun h => by have := hR _ h; omega⟩)) ((World.putObj_heap_other (by omega)).trans hd)
end Go.Proofs.YtmbhkkophkccbaaGreat.SeqR
end
section
namespace Go.Proofs.YtmbhkkophkccbaaGreat.FS
open Go.Proofs.YtmbhkkophkccbaaGreat.WS
set_option linter.unusedVariables false

structure IsMay (f : Fo) : Prop where
 len : 1 ≤ f.length ∧ f.length ≤ 60
 root : (at_ f 0).parent = -1
 node : ∀ i : Nat, i < f.length → plainB (at_ f i) = true ∧ ((at_ f i).kind = 0 ↔ i = 0)
 kids : ∀ i : Nat, i < f.length → ∀ k ∈ (at_ f i).kids, isNode f k = true ∧ (at_ f k).parent = i
 doc : ∀ k ∈ (at_ f 0).kids, (at_ f k).kind ≠ 2
 one : elems f (at_ f 0).kids ≤ 1
 par : ∀ i : Nat, i < f.length → -1 ≤ (at_ f i).parent ∧ (at_ f i).parent < f.length ∧ (0 ≤ (at_ f i).parent → (at_ f (at_ f i).parent).kids.count (i : Int) = 1)
 climb : climbsP f
theorem nodeI {f : Fo} {i : Nat} (hi : i < f.length) : isNode f (i : Int) = true := (node_iff _ _).2 ⟨by omega, by omega⟩
theorem sum_zero : ∀ (l : List Nat), (∀ x ∈ l, x = 0) → l.sum = 0
 | [], _ => rfl
 | x :: l, h => by rw [List.sum_cons, h x (by simp), sum_zero l (fun y hy => h y (by simp [hy]))]
theorem sum_single : ∀ (l : List Nat) (p : Nat) (hp : p < l.length), (∀ j (hj : j < l.length), j ≠ p → l[j] = 0) → l.sum = l[p]
 | [], p, hp, _ => absurd hp (by simp)
 | x :: l, 0, hp, h => by
  rw [List.sum_cons, sum_zero l (fun y hy => by
   obtain ⟨j, hj, rfl⟩ := List.mem_iff_getElem.1 hy
   exact h (j + 1) (by simpa using hj) (by omega))]
  rfl
 | x :: l, p + 1, hp, h => by
  have hx : x = 0 := h 0 (by simp) (by omega)
  rw [List.sum_cons, hx, Nat.zero_add, sum_single l p (by simpa using hp) (fun j hj hne => h (j + 1) (by simpa using hj) (by omega))]
  rfl
theorem known_count {f : Fo} (hk : ∀ j : Nat, j < f.length → ∀ k ∈ (at_ f j).kids, (at_ f k).parent = j) {i : Int} {p : Nat} (hp : p < f.length) (he : (at_ f i).parent = p) : known f i = (at_ f p).kids.count i := by
 unfold known
 rw [sum_single _ p (by simpa using hp) (fun j hj hne => by
  have hj' : j < f.length := by simpa using hj
  rw [List.getElem_map]
  refine List.count_eq_zero_of_not_mem (fun hm => ?_)
  have := hk j hj' i (by rw [atN hj']; exact hm)
  rw [he] at this
  omega), List.getElem_map, atN hp]
theorem may_is {f : Fo} (h : mayB f = true) : IsMay f := by
 have hfam := may_family h
 have hk : ∀ i : Nat, i < f.length → ∀ k ∈ (at_ f i).kids, isNode f k = true ∧ (at_ f k).parent = i := fun i hi k hk => fam_kids hfam (nodeI hi) hk
 have h0 : kidsB f 0 (at_ f 0) = true := by
  unfold familyB at hfam
  rw [Bool.and_eq_true, List.all_eq_true] at hfam
  exact hfam.1 0 (List.mem_range.2 (by have := may_len h; omega))
 unfold kidsB at h0
 simp only [ne_eq, not_true_eq_false, decide_false, Bool.false_or, Bool.and_eq_true, List.all_eq_true, decide_eq_true_eq, bne_iff_ne] at h0
 refine ⟨may_len h, may_root h, fun i hi => may_kinds h hi, hk, fun k hk => h0.2.1 k hk, h0.2.2, fun i hi => ?_, may_climbs h⟩
 obtain ⟨a, b, c⟩ := fam_parent hfam (nodeI hi)
 refine ⟨a, b, fun h1 => ?_⟩
 obtain ⟨p, hp⟩ : ∃ p : Nat, (at_ f (i : Int)).parent = p := ⟨(at_ f (i : Int)).parent.toNat, by omega⟩
 have := known_count (fun j hj k hk' => (hk j hj k hk').2) (p := p) (by omega) hp
 rw [hp, ← this]
 exact c h1
theorem is_may {f : Fo} (h : IsMay f) : mayB f = true := by
 have hfam : familyB f = true := by
  unfold familyB
  rw [Bool.and_eq_true, List.all_eq_true, List.all_eq_true]
  refine ⟨fun i hi => ?_, fun i hi => ?_⟩
  ·have hi := List.mem_range.1 hi
   unfold kidsB
   rw [Bool.and_eq_true, List.all_eq_true]
   refine ⟨fun k hk => ?_, ?_⟩
   ·obtain ⟨a, b⟩ := h.kids i hi k hk
    rw [Bool.and_eq_true]
    exact ⟨a, decide_eq_true b⟩
   ·by_cases e : i = 0
    ·subst e
     rw [Bool.or_eq_true]; right
     rw [Bool.and_eq_true, List.all_eq_true]
     exact ⟨fun k hk => by rw [bne_iff_ne]; exact h.doc k hk, decide_eq_true h.one⟩
    ·rw [Bool.or_eq_true]; left; exact decide_eq_true e
  ·have hi := List.mem_range.1 hi
   obtain ⟨a, b, c⟩ := h.par i hi
   unfold parentB
   rw [Bool.and_eq_true, Bool.and_eq_true, Bool.or_eq_true]
   refine ⟨⟨decide_eq_true a, decide_eq_true b⟩, ?_⟩
   by_cases h0 : 0 ≤ (at_ f i).parent
   ·right
    apply decide_eq_true
    obtain ⟨p, hp⟩ : ∃ p : Nat, (at_ f (i : Int)).parent = p := ⟨(at_ f (i : Int)).parent.toNat, by omega⟩
    rw [known_count (fun j hj k hk' => (h.kids j hj k hk').2) (p := p) (by omega) hp, ← hp]
    exact c h0
   ·left; exact decide_eq_true (by omega)
 unfold mayB
 rw [hfam, climbs_true h.climb]
 simp only [Bool.and_true, Bool.and_eq_true, decide_eq_true_eq, List.all_eq_true, List.mem_range]
 refine ⟨⟨h.len, h.root⟩, fun i hi => ⟨(h.node i hi).1, ?_⟩⟩
 have := (h.node i hi).2
 rw [beq_iff_eq, Bool.eq_iff_iff]
 simpa using this

theorem up_avoid {f f' : Fo} {i : Int} (hp : ∀ j, j ≠ i → (at_ f' j).parent = (at_ f j).parent) : ∀ (n : Nat) (j : Int), Up f n j → (∀ m, ¬ Reach f m j i) → Up f' n j
 | 0, j, h, _ => h
 | n + 1, j, h, ha => by
  have hne : j ≠ i := fun e => ha 0 e
  refine ⟨h.1, ?_⟩
  rw [hp j hne]
  exact up_avoid hp n _ h.2 (fun m hm => ha (m + 1) ⟨h.1, hm⟩)
theorem up_move {f f' : Fo} {i : Int} (hp : ∀ j, j ≠ i → (at_ f' j).parent = (at_ f j).parent) (hu : ∃ n, Up f' n i) : ∀ (n : Nat) (j : Int), Up f n j → ∃ m, Up f' m j
 | 0, j, h => ⟨0, h⟩
 | n + 1, j, h => by
  by_cases e : j = i
  ·rw [e]; exact hu
  ·obtain ⟨m, hm⟩ := up_move hp hu n _ h.2
   exact ⟨m + 1, h.1, by rw [hp j e]; exact hm⟩
theorem up_same {f f' : Fo} (hp : ∀ j, (at_ f' j).parent = (at_ f j).parent) : ∀ (n : Nat) (j : Int), Up f n j → Up f' n j
 | 0, j, h => h
 | n + 1, j, h => ⟨h.1, by rw [hp j]; exact up_same hp n _ h.2⟩
theorem elems_congr {f f' : Fo} (l : List Int) (h : ∀ k ∈ l, (at_ f' k).kind = (at_ f k).kind) : elems f' l = elems f l := by
 unfold elems
 exact List.countP_congr (fun k hk => by rw [h k hk])

theorem may_same {f f' : Fo} (h : IsMay f) (hl : f'.length = f.length) (hk : ∀ j, (at_ f' j).kind = (at_ f j).kind ∧ (at_ f' j).parent = (at_ f j).parent ∧ (at_ f' j).kids = (at_ f j).kids) (hp : ∀ i : Nat, i < f.length → plainB (at_ f' i) = true) : IsMay f' := by
 have hn : ∀ k, isNode f' k = isNode f k := fun k => by unfold isNode; rw [hl]
 refine ⟨by rw [hl]; exact h.len, by rw [(hk 0).2.1]; exact h.root, fun i hi => ⟨hp i (by omega), by rw [(hk i).1]; exact (h.node i (by omega)).2⟩, fun i hi k hm => ?_, fun k hm => ?_, ?_, fun i hi => ?_, fun i hi => ?_⟩
 ·rw [(hk i).2.2] at hm
  rw [hn, (hk k).2.1]
  exact h.kids i (by omega) k hm
 ·rw [(hk 0).2.2] at hm
  rw [(hk k).1]
  exact h.doc k hm
 ·rw [elems_congr _ (fun k _ => (hk k).1), (hk 0).2.2]
  exact h.one
 ·rw [(hk i).2.1, (hk _).2.2, hl]
  exact h.par i (by omega)
 ·obtain ⟨n, hu⟩ := h.climb i (by omega)
  exact ⟨n, up_same (fun j => (hk j).2.1) n _ hu⟩
theorem at_snoc {f : Fo} (n : Nd) (j : Int) : at_ (f ++ [n]) j = if j = (f.length : Int) then n else at_ f j := by
 unfold at_
 by_cases h0 : 0 ≤ j
 ·rw [if_pos h0, if_pos h0, List.getD_eq_getElem?_getD, List.getElem?_append]
  by_cases e : j = (f.length : Int)
  ·rw [if_pos e, if_neg (by omega), show j.toNat - f.length = 0 by omega]; rfl
  ·rw [if_neg e]
   by_cases hlt : j.toNat < f.length
   ·rw [if_pos hlt, ← List.getD_eq_getElem?_getD]
   ·rw [if_neg hlt, List.getD_eq_getElem?_getD, List.getElem?_eq_none (by simp; omega), List.getElem?_eq_none (by omega)]
 ·rw [if_neg h0, if_neg h0, if_neg (by omega)]
theorem may_more {f : Fo} (h : IsMay f) (n : Nd) (hl : f.length < 60) (hp : plainB n = true) (hk : n.kind ≠ 0) (hpar : n.parent = -1) (hkids : n.kids = []) : IsMay (f ++ [n]) := by
 have h1 := h.len.1
 have hat : ∀ j, j ≠ (f.length : Int) → at_ (f ++ [n]) j = at_ f j := fun j hj => by rw [at_snoc, if_neg hj]
 have hlast : at_ (f ++ [n]) (f.length : Int) = n := by rw [at_snoc, if_pos rfl]
 have hne : ∀ i : Nat, i < f.length → ∀ k ∈ (at_ f i).kids, k ≠ (f.length : Int) := fun i hi k hm => by
  have := (node_iff _ _).1 (h.kids i hi k hm).1
  omega
 have h0 : at_ (f ++ [n]) 0 = at_ f 0 := hat 0 (by omega)
 have hup : ∀ (m : Nat) (j : Int), Up f m j → j < f.length → Up (f ++ [n]) m j := by
  intro m
  induction m with
  | zero => exact fun j h _ => h
  | succ m ih =>
   intro j hj hlt
   refine ⟨hj.1, ?_⟩
   rw [hat j (by omega)]
   refine ih _ hj.2 ?_
   obtain ⟨x, rfl⟩ : ∃ x : Nat, j = x := ⟨j.toNat, by have := hj.1; omega⟩
   exact (h.par x (by omega)).2.1
 refine ⟨by rw [List.length_append, List.length_singleton]; omega, by rw [h0]; exact h.root, fun i hi => ?_, fun i hi k hm => ?_, fun k hm => ?_, ?_, fun i hi => ?_, fun i hi => ?_⟩
 ·rw [List.length_append, List.length_singleton] at hi
  by_cases e : i = f.length
  ·subst e
   rw [hlast]
   exact ⟨hp, fun x => absurd x hk, fun x => by omega⟩
  ·rw [hat i (by omega)]
   exact h.node i (by omega)
 ·rw [List.length_append, List.length_singleton] at hi
  by_cases e : i = f.length
  ·subst e
   rw [hlast, hkids] at hm
   cases hm
  ·rw [hat i (by omega)] at hm
   have hx := h.kids i (by omega) k hm
   rw [hat k (hne i (by omega) k hm)]
   refine ⟨?_, hx.2⟩
   have := (node_iff _ _).1 hx.1
   refine (node_iff _ _).2 ⟨this.1, ?_⟩
   rw [List.length_append]; omega
 ·rw [h0] at hm
  rw [hat k (hne 0 (by omega) k hm)]
  exact h.doc k hm
 ·have := elems_congr (f := f) (f' := f ++ [n]) (at_ f 0).kids (fun k hm => by rw [hat k (hne 0 (by omega) k hm)])
  rw [h0, this]
  exact h.one
 ·rw [List.length_append, List.length_singleton] at hi ⊢
  by_cases e : i = f.length
  ·subst e
   rw [hlast, hpar]
   exact ⟨by omega, by omega, fun x => by omega⟩
  ·rw [hat i (by omega)]
   obtain ⟨a, b, c⟩ := h.par i (by omega)
   refine ⟨a, by omega, fun x => ?_⟩
   rw [hat _ (by omega)]
   exact c x
 ·rw [List.length_append, List.length_singleton] at hi
  by_cases e : i = f.length
  ·subst e
   exact ⟨1, by omega, by rw [hlast, hpar]; show (-1 : Int) < 0; omega⟩
  ·obtain ⟨m, hm⟩ := h.climb i (by omega)
   exact ⟨m, hup m _ hm (by omega)⟩
theorem may_moved {f f' : Fo} (h : IsMay f) (hl : f'.length = f.length) {i : Nat} (hi : i < f.length) (hi0 : i ≠ 0) (p' : Int) (hp' : -1 ≤ p') (hpar : ∀ j, (at_ f' j).parent = if j = (i : Int) then p' else (at_ f j).parent)
  (hkind : ∀ j, (at_ f' j).kind = (at_ f j).kind) (hplain : ∀ j : Nat, j < f.length → plainB (at_ f' j) = true) (hkids : ∀ j, j ≠ p' → (at_ f' j).kids = (at_ f j).kids.filter (· != (i : Int)))
  (hnew : 0 ≤ p' → p' < f.length ∧ (∃ a b, (at_ f p').kids.filter (· != (i : Int)) = a ++ b ∧ (at_ f' p').kids = a ++ (i : Int) :: b) ∧ ¬ belowP f i p')
  (hdoc : p' = 0 → (at_ f i).kind ≠ 2 ∧ elems f (at_ f' 0).kids ≤ 1) : IsMay f' := by
 have hn : ∀ k, isNode f' k = isNode f k := fun k => by unfold isNode; rw [hl]
 have hmem : ∀ (x k : Int), k ∈ (at_ f' x).kids → (k = (i : Int) ∧ x = p') ∨ (k ≠ (i : Int) ∧ k ∈ (at_ f x).kids) := by
  intro x k hk
  by_cases e : x = p'
  ·by_cases h0 : 0 ≤ p'
   ·obtain ⟨_, ⟨a, b, hab, hf'⟩, _⟩ := hnew h0
    rw [e, hf', List.mem_append, List.mem_cons] at hk
    by_cases ek : k = (i : Int)
    ·exact .inl ⟨ek, e⟩
    ·right
     have : k ∈ a ++ b := by
      rw [List.mem_append]
      rcases hk with h | h | h
      ·exact .inl h
      ·exact absurd h ek
      ·exact .inr h
     rw [← hab] at this
     rw [e]
     exact ⟨ek, (List.mem_filter.1 this).1⟩
   ·exfalso
    have : (at_ f' x) = {} := by unfold at_; rw [if_neg (by omega)]
    rw [this] at hk
    cases hk
  ·rw [hkids x e] at hk
   obtain ⟨h1, h2⟩ := List.mem_filter.1 hk
   exact .inr ⟨by simpa using h2, h1⟩
 refine ⟨by rw [hl]; exact h.len, by rw [hpar, if_neg (by omega)]; exact h.root, fun j hj => ⟨hplain j (by omega), by rw [hkind]; exact (h.node j (by omega)).2⟩, fun x hx k hk => ?_, fun k hk => ?_, ?_, fun x hx => ?_, fun x hx => ?_⟩
 ·rcases hmem x k hk with ⟨rfl, hp⟩ | ⟨hne, hm⟩
  ·rw [hn, hpar, if_pos rfl]
   exact ⟨nodeI hi, hp.symm⟩
  ·rw [hn, hpar, if_neg hne]
   exact h.kids x (by omega) k hm
 ·rw [hkind]
  rcases hmem 0 k hk with ⟨rfl, hp⟩ | ⟨hne, hm⟩
  ·exact (hdoc hp.symm).1
  ·exact h.doc k hm
 ·rw [elems_congr _ (fun k _ => hkind k)]
  by_cases e : p' = 0
  ·exact (hdoc e).2
  ·rw [hkids 0 (fun x => e x.symm)]
   exact Nat.le_trans (List.filter_sublist.countP_le) h.one
 ·rw [hpar, hl]
  by_cases e : (x : Int) = (i : Int)
  ·rw [if_pos e]
   refine ⟨hp', ?_, fun h0 => ?_⟩
   ·by_cases h0 : 0 ≤ p'
    ·exact (hnew h0).1
    ·omega
   ·obtain ⟨_, ⟨a, b, hab, hf'⟩, _⟩ := hnew h0
    rw [hf', e]
    have hni : (i : Int) ∉ a ++ b := by
     rw [← hab]
     intro hm
     have := (List.mem_filter.1 hm).2
     simp at this
    rw [List.mem_append] at hni
    rw [List.count_append, List.count_cons_self, List.count_eq_zero_of_not_mem (fun x => hni (.inl x)), List.count_eq_zero_of_not_mem (fun x => hni (.inr x))]
  ·rw [if_neg e]
   obtain ⟨a1, b1, c1⟩ := h.par x (by omega)
   refine ⟨a1, b1, fun h0 => ?_⟩
   have hcf : ((at_ f (at_ f (x : Int)).parent).kids.filter (· != (i : Int))).count (x : Int) = 1 := by
    rw [List.count_filter (by simpa using e)]
    exact c1 h0
   by_cases ep : (at_ f (x : Int)).parent = p'
   ·obtain ⟨_, ⟨a, b, hab, hf'⟩, _⟩ := hnew (by omega)
    rw [ep] at hcf ⊢
    rw [hf', List.count_append, List.count_cons_of_ne (fun y => e y.symm), ← List.count_append, ← hab]
    exact hcf
   ·rw [hkids _ ep]
    exact hcf
 ·obtain ⟨n, hu⟩ := h.climb x (by omega)
  refine up_move (i := (i : Int)) (fun j hj => by rw [hpar, if_neg hj]) ?_ n _ hu
  by_cases h0 : 0 ≤ p'
  ·obtain ⟨h1, _, h3⟩ := hnew h0
   obtain ⟨p, rfl⟩ : ∃ p : Nat, p' = p := ⟨p'.toNat, by omega⟩
   obtain ⟨m, hm⟩ := h.climb p (by omega)
   refine ⟨m + 1, by omega, ?_⟩
   rw [hpar, if_pos rfl]
   exact up_avoid (i := (i : Int)) (fun j hj => by rw [hpar, if_neg hj]) m _ hm (fun k hk => h3 ⟨by omega, k, hk⟩)
  ·exact ⟨1, by omega, by rw [hpar, if_pos rfl]; show p' < 0; omega⟩

theorem take_length (f : Fo) (i : Int) : (takeF f i).length = f.length := by
 unfold takeF
 simp only
 split <;> simp
theorem not_kid {f : Fo} (h : IsMay f) {i : Int} {j : Int} (hne : (at_ f i).parent ≠ j) : i ∉ (at_ f j).kids := fun hm => by
 by_cases hj : isNode f j = true
 ·obtain ⟨n, rfl, hn⟩ := node_nat hj
  exact hne (h.kids n hn i hm).2
 ·have : at_ f j = {} := by
   unfold at_
   split
   ·rw [List.getD_eq_getElem?_getD, List.getElem?_eq_none (by
     rw [node_iff] at hj
     omega)]
    rfl
   ·rfl
  rw [this] at hm
  cases hm
theorem filter_none {l : List Int} {i : Int} (h : i ∉ l) : l.filter (· != i) = l := by
 rw [List.filter_eq_self]
 intro a ha
 rw [bne_iff_ne]
 rintro rfl
 exact h ha
theorem take_at {f : Fo} (h : IsMay f) {i : Nat} (hi : i < f.length) (j : Int) : at_ (takeF f i) j = { at_ f j with parent := if j = (i : Int) then -1 else (at_ f j).parent, kids := (at_ f j).kids.filter (· != (i : Int)) } := by
 unfold takeF
 simp only [Int.toNat_natCast]
 by_cases hp : (at_ f (i : Int)).parent = -1
 ·have hk : ∀ j, (i : Int) ∉ (at_ f j).kids := fun j hm => by
   by_cases e : j = -1
   ·subst e
    have : at_ f (-1) = {} := rfl
    rw [this] at hm
    cases hm
   ·exact not_kid h (by rw [hp]; exact fun x => e x.symm) hm
  rw [if_pos hp, set_at hi, filter_none (hk j)]
  by_cases e : j = (i : Int)
  ·rw [if_pos e, if_pos e, e]
  ·rw [if_neg e, if_neg e]
 ·obtain ⟨a, b, c⟩ := h.par i hi
  obtain ⟨p, hpe⟩ : ∃ p : Nat, (at_ f (i : Int)).parent = p := ⟨(at_ f (i : Int)).parent.toNat, by omega⟩
  have hpl : p < f.length := by omega
  rw [if_neg hp, hpe, Int.toNat_natCast, set_at (by rw [List.length_set]; exact hi), set_at hpl, set_at hpl]
  by_cases e : j = (i : Int)
  ·rw [if_pos e, if_pos e, e]
   by_cases e2 : (i : Int) = (p : Int)
   ·rw [if_pos e2, ← e2]
   ·rw [if_neg e2, filter_none (not_kid h (by rw [hpe]; exact fun x => e2 x.symm))]
  ·rw [if_neg e, if_neg e]
   by_cases e2 : j = (p : Int)
   ·rw [if_pos e2, e2]
   ·rw [if_neg e2, filter_none (not_kid h (by rw [hpe]; exact fun x => e2 x.symm))]
theorem insert_length (f : Fo) (o : Opn) : (insertF f o).length = f.length := by
 unfold insertF
 simp [take_length]
theorem insert_at {f : Fo} (h : IsMay f) {o : Opn} {i t : Nat} (hoi : o.id = i) (hot : o.to = t) (hi : i < f.length) (ht : t < f.length) (j : Int) :
  at_ (insertF f o) j = { at_ f j with parent := if j = (i : Int) then (t : Int) else (at_ f j).parent, kids := if j = (t : Int) then insertL ((at_ f j).kids.filter (· != (i : Int))) o.at_.toNat i else (at_ f j).kids.filter (· != (i : Int)) } := by
 have hl := take_length f i
 unfold insertF
 simp only [hoi, hot, Int.toNat_natCast]
 rw [set_at (by rw [List.length_set, hl]; exact ht), set_at (by rw [hl]; exact hi), set_at (by rw [hl]; exact hi), take_at h hi, take_at h hi, take_at h hi]
 by_cases e : j = (t : Int)
 ·by_cases e2 : j = (i : Int)
  ·rw [if_pos e, if_pos e, if_pos e2, if_pos (e ▸ e2), ← e2, ← e]
  ·rw [if_pos e, if_pos e, if_neg e2, if_neg (e ▸ e2), ← e]
   simp only [if_neg e2]
 ·by_cases e2 : j = (i : Int)
  ·rw [if_neg e, if_neg e, if_pos e2, if_pos e2, e2]
  ·rw [if_neg e, if_neg e, if_neg e2, if_neg e2]
   simp only [if_neg e2]
theorem first_zero : ∀ (l : List (Int × Bool)), (∀ c ∈ l, c.1 ≠ 0) → firstE l = 0 → ∀ c ∈ l, c.2 = true
 | [], _, _, c, hc => by cases hc
 | (e, b) :: l, hn, h, c, hc => by
  unfold firstE at h
  rw [List.find?_cons] at h
  cases b with
  | false => exact absurd h (hn (e, false) (by simp))
  | true =>
   simp only [Bool.not_true] at h
   rcases List.mem_cons.1 hc with rfl | hc
   ·rfl
   ·exact first_zero l (fun c hc => hn c (by simp [hc])) h c hc
theorem plain_kids {n n' : Nd} (h : plainB n = true) (h1 : n'.kind = n.kind) (h2 : n'.name = n.name) (h3 : n'.text = n.text) (h4 : n'.attrs = n.attrs) (h5 : n.kids = [] → n'.kids = []) : plainB n' = true := by
 unfold plainB at h ⊢
 rw [h1, h2, h3, h4]
 split
 ·rw [if_pos (by assumption)] at h; exact h
 ·rename_i e0
  rw [if_neg e0] at h
  split
  ·rename_i e1
   rw [if_pos e1] at h; exact h
  ·rename_i e1
   rw [if_neg e1] at h
   split
   ·rename_i e2
    rw [if_pos e2] at h
    simp only [Bool.and_eq_true, decide_eq_true_eq] at h ⊢
    exact ⟨h.1, h5 h.2⟩
   ·rename_i e2
    rw [if_neg e2] at h
    exact h
theorem plain_el {n n' : Nd} (h : plainB n = true) (hk : n.kind = 0 ∨ n.kind = 1) (h1 : n'.kind = n.kind) (h2 : n'.name = n.name) (h3 : n'.text = n.text) (h4 : n'.attrs = n.attrs) : plainB n' = true := by
 unfold plainB at h ⊢
 rw [h1, h2, h3, h4]
 rcases hk with e | e
 ·rw [if_pos e] at h ⊢; exact h
 ·rw [if_neg (by omega), if_pos e] at h ⊢; exact h
theorem take_may {f : Fo} (h : IsMay f) {i : Nat} (hi : i < f.length) (hi0 : i ≠ 0) : IsMay (takeF f i) := by
 have hat := take_at h hi
 refine may_moved h (take_length f i) hi hi0 (-1) (by omega) (fun j => by rw [hat]) (fun j => by rw [hat]) (fun j hj => ?_) (fun j _ => by rw [hat]) (fun x => by omega) (fun x => by omega)
 rw [hat]
 exact plain_kids (h.node j hj).1 rfl rfl rfl rfl (fun e => by simp [e])
theorem insert_may {f : Fo} (h : IsMay f) {o : Opn} {i t : Nat} (hoi : o.id = i) (hot : o.to = t) (hi : i < f.length) (ht : t < f.length) (hlie : liesB f o = true) (hb : ¬ belowP f i t) : IsMay (insertF f o) := by
 have hat := insert_at h hoi hot hi ht
 unfold liesB at hlie
 rw [hoi, hot] at hlie
 split at hlie
 ·cases hlie
 rename_i hno
 have hi0 : i ≠ 0 := fun e => hno (.inl (by omega))
 have hkt : (at_ f (t : Int)).kind = 0 ∨ (at_ f (t : Int)).kind = 1 := by
  by_cases e : (at_ f (t : Int)).kind = 0
  ·exact .inl e
  ·by_cases e2 : (at_ f (t : Int)).kind = 1
   ·exact .inr e2
   ·exact absurd (.inr ⟨e, e2⟩) hno
 refine may_moved h (insert_length f o) hi hi0 t (by omega) (fun j => by rw [hat]) (fun j => by rw [hat]) (fun j hj => ?_) (fun j hne => by rw [hat]; simp only [if_neg hne]) (fun _ => ⟨by omega, ⟨_, _, (List.take_append_drop o.at_.toNat _).symm, by rw [hat]; simp only [if_true]; rfl⟩, hb⟩) (fun e0 => ?_)
 ·rw [hat]
  by_cases e : (j : Int) = (t : Int)
  ·rw [if_pos e]
   exact plain_el (h.node j hj).1 (by rw [e]; exact hkt) rfl rfl rfl rfl
  ·rw [if_neg e]
   exact plain_kids (h.node j hj).1 rfl rfl rfl rfl (fun e => by simp [e])
 ·have ht0 : t = 0 := by omega
  subst ht0
  have hk0 : (at_ (insertF f o) 0).kids = insertL ((at_ f 0).kids.filter (· != (i : Int))) o.at_.toNat i := by
   have := hat 0
   rw [this]
   simp
  have hel : elems f (insertL ((at_ f 0).kids.filter (· != (i : Int))) o.at_.toNat i) = elems f ((at_ f 0).kids.filter (· != (i : Int))) + if (at_ f (i : Int)).kind = 1 then 1 else 0 := by
   unfold insertL elems
   rw [List.countP_append, List.countP_cons]
   have : ((at_ f 0).kids.filter (· != (i : Int))).countP (fun k => (at_ f k).kind == 1) = (((at_ f 0).kids.filter (· != (i : Int))).take o.at_.toNat ++ ((at_ f 0).kids.filter (· != (i : Int))).drop o.at_.toNat).countP (fun k => (at_ f k).kind == 1) := by rw [List.take_append_drop]
   rw [this, List.countP_append]
   simp only [beq_iff_eq]
   omega
  rw [hk0, hel]
  have hle : elems f ((at_ f 0).kids.filter (· != (i : Int))) ≤ 1 := Nat.le_trans (List.filter_sublist.countP_le) h.one
  split at hlie
  ·rename_i h3
   have h3 : (at_ f (i : Int)).kind = 3 := by
    rcases h3 with h | h
    ·exact absurd rfl h
    ·exact h
   rw [h3]
   exact ⟨by decide, by simpa using hle⟩
  ·rw [Bool.and_eq_true, beq_iff_eq, Bool.not_eq_true', List.any_eq_false] at hlie
   obtain ⟨h1, h2⟩ := hlie
   rw [h1]
   refine ⟨by decide, ?_⟩
   have : elems f ((at_ f 0).kids.filter (· != (i : Int))) = 0 := by
    unfold elems
    rw [List.countP_eq_zero]
    intro k hk
    obtain ⟨a, b⟩ := List.mem_filter.1 hk
    have := h2 k a
    rw [b] at this
    simpa using this
   rw [this]
   simp
theorem findA_some {l : List Av} {s : ByteArray} {i : Nat} (h : findA l s = some i) : ∃ hi : i < l.length, l[i].name = s := by
 unfold findA at h
 rw [List.findIdx?_eq_some_iff_getElem] at h
 obtain ⟨hi, h1, _⟩ := h
 exact ⟨hi, of_decide_eq_true h1⟩
theorem findA_none {l : List Av} {s : ByteArray} (h : findA l s = none) : ∀ a ∈ l, a.name ≠ s := by
 unfold findA at h
 rw [List.findIdx?_eq_none_iff] at h
 exact fun a ha => of_decide_eq_false (h a ha)
theorem attrsB_iff (l : List Av) : attrsB l = true ↔ (∀ a ∈ l, nameB a.name.data.toList = true ∧ textB a.value.data.toList = true) ∧ (l.map (·.name.data.toList)).Nodup ∧ l.length ≤ 8 := by
 unfold attrsB
 rw [Bool.and_eq_true, Bool.and_eq_true, List.all_eq_true, decide_eq_true_eq, decide_eq_true_eq]
 constructor
 ·rintro ⟨⟨h1, h2⟩, h3⟩
  exact ⟨fun a ha => by have := h1 a ha; rwa [Bool.and_eq_true] at this, h2, h3⟩
 ·rintro ⟨h1, h2, h3⟩
  exact ⟨⟨fun a ha => by rw [Bool.and_eq_true]; exact h1 a ha, h2⟩, h3⟩
theorem setA_ok {l : List Av} {n t : ByteArray} (h : attrsB l = true) (hn : nameB n.data.toList = true) (ht : textB t.data.toList = true) (hr : (findA l n).isSome = true ∨ l.length < 8) : attrsB (setA l n t) = true := by
 rw [attrsB_iff] at h ⊢
 obtain ⟨h1, h2, h3⟩ := h
 unfold setA
 cases hf : findA l n with
 | some i =>
  obtain ⟨hi, he⟩ := findA_some hf
  refine ⟨fun a ha => ?_, ?_, by rw [List.length_set]; exact h3⟩
  ·rcases List.mem_or_eq_of_mem_set ha with h | rfl
   ·exact h1 a h
   ·exact ⟨hn, ht⟩
  ·have : (l.set i ⟨n, t⟩).map (·.name.data.toList) = l.map (·.name.data.toList) := by
    rw [List.map_set]
    have : n.data.toList = (l.map (·.name.data.toList))[i]'(by simpa using hi) := by rw [List.getElem_map, he]
    simp only
    rw [this]
    exact List.set_getElem_self _
   rw [this]
   exact h2
 | none =>
  have hne := findA_none hf
  refine ⟨fun a ha => ?_, ?_, ?_⟩
  ·rcases List.mem_append.1 ha with h | h
   ·exact h1 a h
   ·rw [List.mem_singleton.1 h]; exact ⟨hn, ht⟩
  ·rw [List.map_append, List.nodup_append]
   refine ⟨h2, by simp, fun a ha b hb e => ?_⟩
   subst e
   obtain ⟨x, hx, hxa⟩ := List.mem_map.1 ha
   simp at hb
   refine hne x hx ?_
   rw [hb] at hxa
   cases hx1 : x.name
   cases hx2 : n
   simp only [hx1, hx2] at hxa
   congr 1
   exact Array.toList_inj.1 hxa
  ·rw [List.length_append, List.length_singleton]
   rcases hr with h | h
   ·rw [hf] at h; cases h
   ·omega
theorem delA_ok {l : List Av} {n : ByteArray} (h : attrsB l = true) : attrsB (delA l n) = true := by
 rw [attrsB_iff] at h ⊢
 obtain ⟨h1, h2, h3⟩ := h
 unfold delA
 cases hf : findA l n with
 | some i =>
  have hs := List.eraseIdx_sublist l i
  exact ⟨fun a ha => h1 a (hs.subset ha), h2.sublist (hs.map _), Nat.le_trans hs.length_le h3⟩
 | none => exact ⟨h1, h2, h3⟩
theorem set_may {f : Fo} (h : IsMay f) {i : Nat} (hi : i < f.length) (n : Nd) (h1 : n.kind = (at_ f i).kind) (h2 : n.parent = (at_ f i).parent) (h3 : n.kids = (at_ f i).kids) (hp : plainB n = true) : IsMay (f.set i n) := by
 refine may_same h (List.length_set) (fun j => ?_) (fun j hj => ?_)
 ·rw [set_at hi]
  split
  ·rename_i e; rw [e]; exact ⟨h1, h2, h3⟩
  ·exact ⟨rfl, rfl, rfl⟩
 ·rw [set_at hi]
  split
  ·exact hp
  ·exact (h.node j hj).1
theorem checks_ne (f : Fo) (o : Opn) : ∀ c ∈ checks f o, c.1 ≠ 0 := by
 unfold checks
 repeat' split
 all_goals simp
theorem one_kinds {f : Fo} {o : Opn} (he : oneE f o = 0) : mayO o = true ∧ (∀ c ∈ checks f o, c.2 = true) := by
 unfold oneE at he
 split at he
 ·exact ⟨by assumption, first_zero _ (checks_ne f o) he⟩
 ·cases he
theorem mayO_kind {o : Opn} (h : mayO o = true) : (1 ≤ o.kind ∧ o.kind ≤ 8) ∧ o.name.size ≤ 255 ∧ o.text.size ≤ 255 ∧ (shapeA o.kind = true ∨ o.name.size = 0) ∧ (shapeT o.kind = true ∨ o.text.size = 0) := by
 unfold mayO at h
 simp only [Bool.and_eq_true, Bool.or_eq_true, decide_eq_true_eq] at h
 exact ⟨h.1.1.1.1.1.1.1, h.1.1.1.1.1.1.2, h.1.1.1.1.1.2, h.1.2, h.2⟩
theorem one_may {f : Fo} (hm : mayB f = true) (o : Opn) : mayB (oneF f o) = true := by
 unfold oneF
 split
 case isFalse => exact hm
 case isTrue he =>
 obtain ⟨hmo, hch⟩ := one_kinds he
 obtain ⟨⟨hk1, hk8⟩, hn, ht, hsa, hst⟩ := mayO_kind hmo
 have h := may_is hm
 refine is_may ?_
 unfold doF
 unfold checks at hch
 by_cases k3 : o.kind ≤ 3
 ·rw [if_pos k3]
  unfold freshF
  by_cases k1 : o.kind = 1
  ·rw [if_pos k1] at hch
   have hnm := hch (74, namedB o) (by simp)
   have hrm := hch (2, roomB f) (by simp)
   unfold namedB at hnm
   unfold roomB at hrm
   simp only [Bool.and_eq_true, decide_eq_true_eq] at hnm hrm
   have ht0 : o.text.size = 0 := by
    rcases hst with h | h
    ·rw [k1] at h; cases h
    ·exact h
   refine may_more h _ hrm ?_ (by show o.kind ≠ 0; omega) rfl rfl
   unfold plainB
   rw [if_neg (by show ¬ o.kind = 0; omega), if_pos k1]
   simp only [Bool.and_eq_true, decide_eq_true_eq]
   exact ⟨⟨hnm.1, ht0⟩, by decide⟩
  ·have k23 : o.kind = 2 ∨ o.kind = 3 := by omega
   rw [if_neg k1, if_pos k23] at hch
   have hnm := hch (74, textedB o) (by simp)
   have hrm := hch (2, roomB f) (by simp)
   unfold textedB at hnm
   unfold roomB at hrm
   simp only [decide_eq_true_eq] at hnm hrm
   have hn0 : o.name.size = 0 := by
    rcases hsa with h | h
    ·rcases k23 with e | e <;> rw [e] at h <;> cases h
    ·exact h
   refine may_more h _ hrm ?_ (by show o.kind ≠ 0; omega) rfl rfl
   unfold plainB
   rw [if_neg (by show ¬ o.kind = 0; omega), if_neg k1, if_pos k23]
   simp only [Bool.and_eq_true, decide_eq_true_eq]
   exact ⟨⟨⟨hn0, hnm⟩, trivial⟩, trivial⟩
 rw [if_neg k3]
 rw [if_neg (by omega), if_neg (by omega)] at hch
 by_cases k4 : o.kind = 4
 ·rw [if_pos k4] at hch ⊢
  have c1 := hch (70, knownB f o) (by simp)
  have c2 := hch (70, isNode f o.to) (by simp)
  have c3 := hch (71, liesB f o) (by simp)
  have c4 := hch (72, !belowB f o.id o.to) (by simp)
  obtain ⟨i, hoi, hi⟩ := node_nat (k := o.id) c1
  obtain ⟨t, hot, ht'⟩ := node_nat (k := o.to) c2
  refine insert_may h hoi hot hi ht' c3 (fun hb => ?_)
  rw [← hoi, ← hot] at hb
  rw [(below_iff hm c2).2 hb] at c4
  cases c4
 rw [if_neg k4] at hch ⊢
 by_cases k5 : o.kind = 5
 ·rw [if_pos k5] at hch ⊢
  have c1 := hch (70, knownB f o) (by simp)
  have c2 := hch (71, o.id != 0) (by simp)
  obtain ⟨i, hoi, hi⟩ := node_nat (k := o.id) c1
  rw [bne_iff_ne] at c2
  rw [hoi] at c2 ⊢
  exact take_may h hi (by omega)
 rw [if_neg k5] at hch ⊢
 by_cases k6 : o.kind = 6
 ·rw [if_pos k6] at hch ⊢
  have c1 := hch (70, knownB f o) (by simp)
  have c2 := hch (71, elemB f o) (by simp)
  have c3 := hch (74, namedB o) (by simp)
  have c4 := hch (75, hasA f o || decide ((at_ f o.id).attrs.length < 8)) (by simp)
  obtain ⟨i, hoi, hi⟩ := node_nat (k := o.id) c1
  unfold elemB at c2
  unfold namedB at c3
  unfold hasA at c4
  rw [beq_iff_eq] at c2
  rw [Bool.and_eq_true] at c3
  rw [Bool.or_eq_true, decide_eq_true_eq] at c4
  have hpl := (h.node i hi).1
  rw [hoi] at c2 c4 ⊢
  rw [Int.toNat_natCast]
  refine set_may h hi _ rfl rfl rfl ?_
  unfold plainB at hpl ⊢
  rw [if_neg (by rw [c2]; decide), if_pos c2] at hpl ⊢
  simp only [Bool.and_eq_true, decide_eq_true_eq] at hpl ⊢
  exact ⟨hpl.1, setA_ok hpl.2 c3.1 c3.2 c4⟩
 rw [if_neg k6] at hch ⊢
 by_cases k7 : o.kind = 7
 ·rw [if_pos k7] at hch ⊢
  have c1 := hch (70, knownB f o) (by simp)
  have c2 := hch (71, elemB f o) (by simp)
  obtain ⟨i, hoi, hi⟩ := node_nat (k := o.id) c1
  unfold elemB at c2
  rw [beq_iff_eq] at c2
  have hpl := (h.node i hi).1
  rw [hoi] at c2 ⊢
  rw [Int.toNat_natCast]
  refine set_may h hi _ rfl rfl rfl ?_
  unfold plainB at hpl ⊢
  rw [if_neg (by rw [c2]; decide), if_pos c2] at hpl ⊢
  simp only [Bool.and_eq_true, decide_eq_true_eq] at hpl ⊢
  exact ⟨hpl.1, delA_ok hpl.2⟩
 rw [if_neg k7] at hch ⊢
 have c1 := hch (70, knownB f o) (by simp)
 have c2 := hch (71, (at_ f o.id).kind == 2 || (at_ f o.id).kind == 3) (by simp)
 have c3 := hch (74, textedB o) (by simp)
 obtain ⟨i, hoi, hi⟩ := node_nat (k := o.id) c1
 unfold textedB at c3
 rw [Bool.or_eq_true, beq_iff_eq, beq_iff_eq] at c2
 have hpl := (h.node i hi).1
 rw [hoi] at c2 ⊢
 rw [Int.toNat_natCast]
 refine set_may h hi _ rfl rfl rfl ?_
 unfold plainB at hpl ⊢
 have n0 : ¬ (at_ f (i : Int)).kind = 0 := by omega
 have n1 : ¬ (at_ f (i : Int)).kind = 1 := by omega
 rw [if_neg n0, if_neg n1, if_pos c2] at hpl ⊢
 simp only [Bool.and_eq_true, decide_eq_true_eq] at hpl ⊢
 exact ⟨⟨⟨hpl.1.1.1, c3⟩, hpl.1.2⟩, hpl.2⟩
end Go.Proofs.YtmbhkkophkccbaaGreat.FS
end
section
namespace Go.Proofs.YtmbhkkophkccbaaGreat.FTops
open Go Go.RowKit Go.Proofs.YtmbhkkophkccbaaGreat.Seq WS FS WordIt Mem Rd Word WordHas Shapes FFam FMay
set_option linter.unusedVariables false
set_option linter.unusedSimpArgs false

theorem grown_below {w W w7 : World} {B : Nat} {e : TypeId} {sz : Nat} {v : Value} {n : Nat} {xs : List Value} (h : Below w.heap.size w W) (hg : W.grownBy w7 v.ownBlock) (hown : W.ownsRow B e sz v n xs) (hB : w.heap.size ≤ B) : Below w.heap.size w w7 :=
 h.trans ((Off.grown (Y := fun b => B ≤ b) hg (fun r hr => (hown.lt r hr).1)).toBelow h.size (fun b hb => Nat.le_trans hB hb))
theorem own_ints {w : World} {base : Nat} {v : Value} {l : List Int} (h : w.ownsRow base 3 1 v l.length (l.map (Value.int .i64))) (hw : ∀ x ∈ l, (Lit.int .i64 x).wf = true) : RdL (intE .i64) 1 w.heap.size w v l := by
 refine RdL.of_own h rfl (fun g hg => (h.lt g hg).2) (fun i hi => ⟨?_, hw _ (List.getElem_mem _)⟩)
 rw [Nat.mul_one, List.drop_eq_getElem_cons (by simpa using hi)]
 simp
theorem wf_i64 {x : Int} (h1 : -9223372036854775808 ≤ x) (h2 : x ≤ 9223372036854775807) : (Lit.int .i64 x).wf = true := by
 simp only [Lit.wf, Bool.and_eq_true, decide_eq_true_eq]
 exact ⟨h1, h2⟩
end Go.Proofs.YtmbhkkophkccbaaGreat.FTops
end
