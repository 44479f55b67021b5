/- Joined by a program: SeqN, BackIt, SeqR, APlain, WkP, WkH. -/
import Derived.Test.YthdenkkllpkplaaGreatC02
import Derived.Test.YthdenkkllpkplaaGreatC04
import Derived.Test.YthdenkkllpkplaaGreatC05
import Derived.Test.YthdenkkllpkplaaGreatC14
section
/- As Seq, for 'for x, y := range seq { .. }'. General: no program. -/
namespace Go.Proofs.YthdenkkllpkplaaGreat.SeqN
open Go Go.RowKit Go.Proofs.YthdenkkllpkplaaGreat.Seq
set_option linter.unusedVariables false

/-- THE ITERATOR's CONTRACT: it hands out encs, one behind the other, unless it is told to stop. -/
def SeqCn (P : Program) (gf : Nat) (lb : Array Value) (encs : List (Array Value)) (Y Z : Nat → Prop) (Wc : World → Prop) : Prop :=
  ∀ (l : Nat) (J Jx : Nat → (Nat → Prop) → World → Prop) (X : Nat → Prop) (W : World), Wc W → Foot J → Foot Jx → (∀ b, X b → ¬ Y b ∧ ¬ Z b) → J 0 X W →
    (∀ k X W (hk : k < encs.length), J k X W → YieldAt Fence.wide 0 P l encs[k] W (RoundR X W (J (k + 1)) (Jx k))) →
    CallsIn Fence.wide 0 P gf (#[.func (.yield l) #[] #[]] ++ lb) W (SeqR X Y W (J encs.length) (fun X' W' => ∃ k, k < encs.length ∧ Jx k X' W'))

/-- THE LOOP. The assignment to the loop's variable is a plain move (a₁ k is the activation behind it). -/
theorem wpIn_rangeN {P : Program} {g : Operand} {pts : Array Tmp} {assign body : Code} {Q : Exit → Act → World → Prop} {a : Act} {w : World}
    {gf : Nat} {lb : Array Value} (hg : a.eval g = .func (.func gf) #[] lb) (eg : ∀ args w, (callFunc gf args).run P w = .ok (.enter gf args) w)
    {encs : List (Array Value)} {Y Z : Nat → Prop} {Wc : World → Prop} (hseq : SeqCn P gf lb encs Y Z Wc)
    (hWc : ∀ W, Off (fun _ => False) w W → Wc W)
    (I : Nat → (Nat → Prop) → World → Prop) (Ix : Code → Nat → (Nat → Prop) → World → Prop) (hI : Foot I) (hIx : ∀ c, Foot (Ix c)) (X : Nat → Prop)
    (hX : ∀ b, X b → ¬ Y b ∧ ¬ Z b) (h0 : I 0 X w) (hYZ : ∀ b, Y b ∨ Z b → b < w.heap.size) (a₁ : Nat → Act)
    (hassign : ∀ (l k : Nat) (hk : k < encs.length) (W : World) (K : Act → World → Prop), K (a₁ k) W →
      assign.wpIn (Fence.wide.inRound l) 0 P (Exit.then K (fun _ _ _ => False)) { tmps := (pts.zip encs[k]).foldl (fun t (p, v) => t.setIfInBounds p v) a.tmps, defers := [] } W)
    (hsz : ∀ k (hk : k < encs.length), encs[k].size = pts.size)
    (hbody : ∀ (l k : Nat) (hk : k < encs.length) (X : Nat → Prop) (W : World), I k X W → body.wpIn (Fence.wide.inRound l) 0 P (bodyR X W (I (k + 1)) (fun c => Ix c k)) (a₁ k) W)
    (hdone : ∀ (D : Nat) (X' : Nat → Prop) (W : World), w.heap.size ≤ D → ¬ X' D → Grew X w X' → Off (fun b => X b ∨ Y b) w W → I encs.length X' W → W.heap[D]? = some (.deferred (some [])) → Q .normal { a with defers := CollD D :: a.defers } W)
    (hstop : ∀ (D : Nat) (c : Code) (k : Nat) (X' : Nat → Prop) (W : World), k < encs.length → w.heap.size ≤ D → ¬ X' D → Grew X w X' → Off (fun b => X b ∨ Y b) w W → Ix c k X' W → W.heap[D]? = some (.deferred (some [])) →
      c.wpIn Fence.wide 0 P Q { a with defers := CollD D :: a.defers } W) :
    (Code.rangeFunc g pts assign body).wpIn Fence.wide 0 P Q a w := by
  refine wpIn_rangeFunc ?_
  intro fn hfn
  obtain ⟨rec, hrec⟩ : ∃ rec : LoopState → Option Code → Loop, rec = fun st pe => { state := st, pending := pe, fn, tmps := a.tmps, params := pts, assign, body, defers := w.heap.size } := ⟨_, rfl⟩
  obtain ⟨W1, hW1⟩ : ∃ W1, (w.alloc (.deferred (some []))).alloc (.loop (rec .ready none)) = W1 := ⟨_, rfl⟩
  have hL1 : W1.heap[w.heap.size + 1]? = some (.loop (rec .ready none)) := by
    rw [← hW1]; have := World.alloc_heap_new (w.alloc (.deferred (some []))) (.loop (rec .ready none)); rwa [World.size_alloc] at this
  have hK1 : W1.heap[w.heap.size]? = some (.deferred (some [])) := by
    rw [← hW1]; exact (Below.heap_alloc _ _ _ (by simp)).trans (World.alloc_heap_new w _)
  have hOff1 : ∀ Y', Off Y' w W1 := fun Y' => by rw [← hW1]; exact (Off.alloc _ _ _).trans (Off.alloc _ _ _)
  have hs1 : W1.heap.size = w.heap.size + 2 := by rw [← hW1]; simp
  have hI1 : I 0 X W1 := hI.1 0 X w W1 h0 (hOff1 _)
  have hXlt : ∀ b, X b → b < w.heap.size := fun b hb => hI.2 0 X w b h0 hb
  refine ⟨w.heap.size + 1, [{ target := .collected w.heap.size, args := #[] }], W1, { target := .fn (.func gf) lb, args := #[.func (.yield (w.heap.size + 1)) #[] #[]] }, W1, gf,
    #[.func (.yield (w.heap.size + 1)) #[] #[]] ++ lb, W1, ?_, ?_, ?_, ?_, fun h => by simp [Fence.wide] at h, ?_⟩
  · rw [← hW1, hrec]; exact run_enterLoop_outer _ _ _ _ _
  · simp only [resolve, hg]
    simp [go_sem]
  · intro f' hf'; trivial
  · simp [invoke, go_sem, eg]
  · -- the two blocks of book-keeping beside the caller's own
    let Bk : (Nat → Prop) → (Nat → Prop) → Prop := fun X' X0 => ∀ b, X' b ↔ (X0 b ∨ b = w.heap.size ∨ b = w.heap.size + 1)
    let J : Nat → (Nat → Prop) → World → Prop := fun k X' W => ∃ X0, Bk X' X0 ∧ ¬ X0 w.heap.size ∧ ¬ X0 (w.heap.size + 1) ∧ Grew X w X0 ∧ I k X0 W ∧ W.heap[w.heap.size + 1]? = some (.loop (rec .ready none)) ∧ W.heap[w.heap.size]? = some (.deferred (some []))
    let Jx : Nat → (Nat → Prop) → World → Prop := fun k X' W => ∃ c X0, Bk X' X0 ∧ ¬ X0 w.heap.size ∧ ¬ X0 (w.heap.size + 1) ∧ Grew X w X0 ∧ Ix c k X0 W ∧ W.heap[w.heap.size + 1]? = some (.loop (rec .done (some c))) ∧ W.heap[w.heap.size]? = some (.deferred (some []))
    have keep : ∀ {X' X0 : Nat → Prop} {W W' : World} {o : Obj} {b : Nat}, Bk X' X0 → X' b → Off (fun b => ¬ X' b) W W' → W.heap[b]? = some o → W'.heap[b]? = some o :=
      fun {X' X0 W W' o b} hbk hx ho hb => (ho.block b (Array.getElem?_eq_some_iff.1 hb).1 (fun h => h hx)).trans hb
    have hJ : Foot J := by
      refine ⟨?_, ?_⟩
      · rintro k X' W W' ⟨X0, hbk, n1, n2, hgr, hi, hl, hk⟩ ho
        exact ⟨X0, hbk, n1, n2, hgr, hI.1 _ _ _ _ hi (ho.mono (fun b _ hn h0 => hn ((hbk b).2 (.inl h0)))), keep hbk ((hbk _).2 (.inr (.inr rfl))) ho hl, keep hbk ((hbk _).2 (.inr (.inl rfl))) ho hk⟩
      · rintro k X' W b ⟨X0, hbk, n1, n2, hgr, hi, hl, hk⟩ hb
        rcases (hbk b).1 hb with h | rfl | rfl
        · exact hI.2 _ _ _ _ hi h
        · exact (Array.getElem?_eq_some_iff.1 hk).1
        · exact (Array.getElem?_eq_some_iff.1 hl).1
    have hJx : Foot Jx := by
      refine ⟨?_, ?_⟩
      · rintro k X' W W' ⟨c, X0, hbk, n1, n2, hgr, hi, hl, hk⟩ ho
        exact ⟨c, X0, hbk, n1, n2, hgr, (hIx c).1 _ _ _ _ hi (ho.mono (fun b _ hn h0 => hn ((hbk b).2 (.inl h0)))), keep hbk ((hbk _).2 (.inr (.inr rfl))) ho hl, keep hbk ((hbk _).2 (.inr (.inl rfl))) ho hk⟩
      · rintro k X' W b ⟨c, X0, hbk, n1, n2, hgr, hi, hl, hk⟩ hb
        rcases (hbk b).1 hb with h | rfl | rfl
        · exact (hIx c).2 _ _ _ _ hi h
        · exact (Array.getElem?_eq_some_iff.1 hk).1
        · exact (Array.getElem?_eq_some_iff.1 hl).1
    have hXY : ∀ b, (X b ∨ b = w.heap.size ∨ b = w.heap.size + 1) → ¬ Y b ∧ ¬ Z b := by
      rintro b (h | rfl | rfl)
      · exact hX b h
      · exact ⟨fun h => by have := hYZ _ (.inl h); omega, fun h => by have := hYZ _ (.inr h); omega⟩
      · exact ⟨fun h => by have := hYZ _ (.inl h); omega, fun h => by have := hYZ _ (.inr h); omega⟩
    refine (hseq (w.heap.size + 1) J Jx (fun b => X b ∨ b = w.heap.size ∨ b = w.heap.size + 1) W1 (hWc W1 (hOff1 _)) hJ hJx hXY ⟨X, fun b => Iff.rfl, fun h => by have := hXlt _ h; omega, fun h => by have := hXlt _ h; omega, Grew.refl _ _, hI1, hL1, hK1⟩ ?_).mono ?_
    · -- one round
      rintro k X' W hk ⟨X0, hbk, n1, n2, hgr, hi, hl, hd⟩
      have hlt : w.heap.size + 1 < W.heap.size := (Array.getElem?_eq_some_iff.1 hl).1
      have hy := run_yield (P := P) (args := encs[k]) hl (by rw [hrec]; exact (hsz k hk))
      rw [hrec] at hy
      refine ⟨fn, _, assign, body, hy, roundIn_of_wpIn hfn ?_⟩
      have ha := hassign (w.heap.size + 1) k hk W (fun a₁' w₁ => ∃ w₂, (Instr.beginRound (w.heap.size + 1)).run P w₁ = .ok () w₂ ∧ body.wpIn (Fence.wide.inRound (w.heap.size + 1)) 0 P (roundPost P (w.heap.size + 1) (RoundR X' W (J (k + 1)) (Jx k))) a₁' w₂) ?_
      · exact ha
      refine ⟨_, run_beginRound hl (by rw [hrec]), ?_⟩
      have hl2 : (W.putObj (w.heap.size + 1) (.loop { rec .ready none with state := .busy })).heap[w.heap.size + 1]? = some (.loop { rec .ready none with state := .busy }) := World.putObj_heap_same hlt
      have hd2 : (W.putObj (w.heap.size + 1) (.loop { rec .ready none with state := .busy })).heap[w.heap.size]? = some (.deferred (some [])) := (World.putObj_heap_other (by omega)).trans hd
      have ho2 : Off (fun b => b = w.heap.size + 1) W (W.putObj (w.heap.size + 1) (.loop { rec .ready none with state := .busy })) := Off.putObj _ _ _ rfl
      have hi2 : I k X0 (W.putObj (w.heap.size + 1) (.loop { rec .ready none with state := .busy })) := hI.1 _ _ _ _ hi (ho2.mono (fun b _ e h => n2 (e ▸ h)))
      refine wpIn_mono (hbody _ k hk X0 _ hi2) ?_
      have fin : ∀ (jump : Option Code) (X3 : Nat → Prop) (W3 : World), Grew X0 (W.putObj (w.heap.size + 1) (.loop { rec .ready none with state := .busy })) X3 → Off X0 (W.putObj (w.heap.size + 1) (.loop { rec .ready none with state := .busy })) W3 →
          (Instr.endRound (w.heap.size + 1) jump).run P W3 = .ok (.bool jump.isNone) (W3.putObj (w.heap.size + 1) (.loop (rec (if jump.isNone then .ready else .done) jump))) ∧
          (W3.putObj (w.heap.size + 1) (.loop (rec (if jump.isNone then .ready else .done) jump))).heap[w.heap.size + 1]? = some (.loop (rec (if jump.isNone then .ready else .done) jump)) ∧
          (W3.putObj (w.heap.size + 1) (.loop (rec (if jump.isNone then .ready else .done) jump))).heap[w.heap.size]? = some (.deferred (some [])) ∧
          ¬ X3 w.heap.size ∧ ¬ X3 (w.heap.size + 1) ∧ Grew X w X3 ∧ Off X' W (W3.putObj (w.heap.size + 1) (.loop (rec (if jump.isNone then .ready else .done) jump))) ∧
          Grew X' W (fun b => X3 b ∨ b = w.heap.size ∨ b = w.heap.size + 1) ∧ Off (fun b => ¬ X3 b) W3 (W3.putObj (w.heap.size + 1) (.loop (rec (if jump.isNone then .ready else .done) jump))) := fun jump X3 W3 hg3 ho3 => by
        have hsz : (W.putObj (w.heap.size + 1) (.loop { rec .ready none with state := .busy })).heap.size = W.heap.size := World.putObj_size
        have hl3 := (ho3.block (w.heap.size + 1) (by rw [hsz]; omega) n2).trans hl2
        have hd3 := (ho3.block w.heap.size (by rw [hsz]; omega) n1).trans hd2
        have m1 : ¬ X3 w.heap.size := fun h => by rcases hg3 _ h with h | h; exact n1 h; rw [hsz] at h; omega
        have m2 : ¬ X3 (w.heap.size + 1) := fun h => by rcases hg3 _ h with h | h; exact n2 h; rw [hsz] at h; omega
        have hr := run_endRound (P := P) jump hl3
        rw [hrec] at hr ⊢
        refine ⟨hr, World.putObj_heap_same (Array.getElem?_eq_some_iff.1 hl3).1, (World.putObj_heap_other (by omega)).trans hd3, m1, m2, ?_, ?_, ?_, Off.putObj _ _ _ m2⟩
        · exact hgr.trans (W' := W) (fun b h => by rcases hg3 b h with h | h; exact .inl h; rw [hsz] at h; exact .inr h) (by omega)
        · have t1 : Off X' W (W.putObj (w.heap.size + 1) (.loop { rec .ready none with state := .busy })) := Off.putObj _ _ _ ((hbk _).2 (.inr (.inr rfl)))
          have t2 : Off X' (W.putObj (w.heap.size + 1) (.loop { rec .ready none with state := .busy })) W3 := ho3.mono (fun b _ h => (hbk b).2 (.inl h))
          rw [hrec] at t1 t2
          exact (t1.trans t2).trans (Off.putObj _ _ _ ((hbk _).2 (.inr (.inr rfl))))
        · rintro b (h | rfl | rfl)
          · rcases hg3 b h with h | h
            · exact .inl ((hbk b).2 (.inl h))
            · rw [hsz] at h; exact .inr h
          · exact .inl ((hbk _).2 (.inr (.inl rfl)))
          · exact .inl ((hbk _).2 (.inr (.inr rfl)))
      rintro e a3 W3 hp
      cases e with
      | normal =>
        obtain ⟨X3, hg3, ho3, hi3⟩ := hp
        obtain ⟨hr, hl4, hd4, m1, m2, hgx, hof, hgf, hoff⟩ := fin none X3 W3 hg3 ho3
        exact ⟨_, _, hr, _, hgf, hof, .inl ⟨rfl, X3, fun b => Iff.rfl, m1, m2, hgx, hI.1 _ _ _ _ hi3 hoff, hl4, hd4⟩⟩
      | ret =>
        obtain ⟨X3, hg3, ho3, hi3⟩ := hp
        obtain ⟨hr, hl4, hd4, m1, m2, hgx, hof, hgf, hoff⟩ := fin (some .ret) X3 W3 hg3 ho3
        exact ⟨_, _, hr, _, hgf, hof, .inr ⟨rfl, .ret, X3, fun b => Iff.rfl, m1, m2, hgx, (hIx _).1 _ _ _ _ hi3 hoff, hl4, hd4⟩⟩
      | exit id =>
        obtain ⟨X3, hg3, ho3, hi3⟩ := hp
        obtain ⟨hr, hl4, hd4, m1, m2, hgx, hof, hgf, hoff⟩ := fin (some (.exit id)) X3 W3 hg3 ho3
        exact ⟨_, _, hr, _, hgf, hof, .inr ⟨rfl, .exit id, X3, fun b => Iff.rfl, m1, m2, hgx, (hIx _).1 _ _ _ _ hi3 hoff, hl4, hd4⟩⟩
      | goto t =>
        obtain ⟨X3, hg3, ho3, hi3⟩ := hp
        obtain ⟨hr, hl4, hd4, m1, m2, hgx, hof, hgf, hoff⟩ := fin (some (.goto t)) X3 W3 hg3 ho3
        exact ⟨_, _, hr, _, hgf, hof, .inr ⟨rfl, .goto t, X3, fun b => Iff.rfl, m1, m2, hgx, (hIx _).1 _ _ _ _ hi3 hoff, hl4, hd4⟩⟩
      | panic ch => exact hp.elim
      | outgrown => exact hp.elim
    · -- behind the iterator
      rintro e W2 ⟨⟨v, rfl⟩, X', hgX, hoff, h⟩
      have hOffw : ∀ (X0 : Nat → Prop) (o : Obj), Off (fun b => X b ∨ Y b) w (W2.putObj (w.heap.size + 1) o) := fun X0 o => by
        have t := (hOff1 (fun b => X b ∨ Y b)).trans' (hoff.trans (Off.putObj W2 (w.heap.size + 1) o (.inl (.inr (.inr rfl))))) (fun b hb => by
          rcases hb with (h | rfl | rfl) | h
          · exact .inl (.inl h)
          · exact .inr (Nat.le_refl _)
          · exact .inr (by omega)
          · exact .inl (.inr h))
        exact t
      rcases h with ⟨X0, hbk, n1, n2, hgr, hi, hl, hd⟩ | ⟨k, hk, c, X0, hbk, n1, n2, hgr, hi, hl, hd⟩
      · refine ⟨none, _, by have := run_endLoop (P := P) hl (by rw [hrec]; simp); rw [hrec] at this; exact this, ?_⟩
        exact hdone w.heap.size X0 _ (Nat.le_refl _) n1 hgr (hOffw X0 _) (hI.1 _ _ _ _ hi (Off.putObj _ _ _ n2)) ((World.putObj_heap_other (by omega)).trans hd)
      · refine ⟨some c, _, by have := run_endLoop (P := P) hl (by rw [hrec]; simp); rw [hrec] at this; exact this, ?_⟩
        exact hstop w.heap.size c k X0 _ hk (Nat.le_refl _) n1 hgr (hOffw X0 _) ((hIx c).1 _ _ _ _ hi (Off.putObj _ _ _ n2)) ((World.putObj_heap_other (by omega)).trans hd)
end Go.Proofs.YthdenkkllpkplaaGreat.SeqN
end
section
/- slices.Backward of a list of numbers. -/
namespace Go.Proofs.YthdenkkllpkplaaGreat.BackIt
open Go Go.RowKit Go.Shelf Go.Proofs.YthdenkkllpkplaaGreat.WS Go.Proofs.YthdenkkllpkplaaGreat.Seq Go.Proofs.YthdenkkllpkplaaGreat.SeqN Go.Proofs.YthdenkkllpkplaaGreat.Mem Go.Proofs.YthdenkkllpkplaaGreat.Rd
set_option linter.unusedVariables false
set_option linter.unusedSimpArgs false
theorem wide_fn (f : FuncId) : Fence.wide.fn f = True := rfl
theorem wide_depth : Fence.wide.depth = none := rfl
theorem wide_round : Fence.wide.round = none := rfl
attribute [local go_sem] Oper.semAt_some wide_fn wide_depth wide_round

/-- What Backward hands out. -/
def backE (l : List Int) : List (Array Value) := (List.range l.length).map (fun m => #[.int .i64 ((l.length - 1 - m : Nat) : Int), .int .i64 (l.getD (l.length - 1 - m) 0)])
theorem backE_length (l : List Int) : (backE l).length = l.length := by simp [backE]
theorem backE_get (l : List Int) {m : Nat} (hm : m < (backE l).length) : (backE l)[m] = #[.int .i64 ((l.length - 1 - m : Nat) : Int), .int .i64 (l.getD (l.length - 1 - m) 0)] := by simp [backE]
theorem below_off {X : Nat → Prop} {W W' : World} {N0 : Nat} (h : Off X W W') (hN : N0 ≤ W.heap.size) (hX : ∀ b, X b → N0 ≤ b) : Below N0 W W' := h.toBelow hN hX
set_option maxHeartbeats 800000 in
theorem backward_seq (kids : List Int) (hk : kids.length ≤ 1000) (N0 B : Nat) (hB : N0 ≤ B) (v : Value) :
    SeqCn Tryz.prog 188 #[.pointer (some ⟨B, 0, none⟩)] (backE kids) (fun _ => False) (fun b => b < N0 ∨ b = B) (fun W => W.heap[B]? = some (.cells #[v] 53 (0, 0)) ∧ RdL (intE .i64) 1 N0 W v kids ∧ N0 ≤ W.heap.size) := by
  intro l J Jx X W hW hJ hJx hX h0 hY
  obtain ⟨hbox, hrd, hN⟩ := hW
  obtain ⟨A0, c0, rfl, hl0, hc0, _⟩ := hrd.form
  simp only [maxLen] at hc0
  refine callsIn_of_wp Tryz.func188 rfl trivial ?_ rfl
  simp only [Tryz.ntmps188, List.size_toArray, List.length_cons, List.length_nil, Nat.reduceAdd, Nat.reduceSub, Array.replicate_succ, Array.replicate_zero, List.push_toArray, List.append_toArray, List.nil_append, List.cons_append]
  have hXN : ∀ b, X b → N0 ≤ b := fun b hb => by have := (hX b hb).2; omega
  have hkeep : ∀ W', Off X W W' → W'.cell? ⟨B, 0, none⟩ = some (.slice A0 kids.length c0) ∧ RdL (intE .i64) 1 N0 W' (.slice A0 kids.length c0) kids := fun W' ho =>
    ⟨(World.cell?_of_block (ho.block B (lt_heap hbox) (fun h => by have := (hX B h).2; omega))).trans (cell_of hbox), hrd.keep (intE_keeps _) (below_off ho hN hXN) (Nat.le_refl _)⟩
  have c0' := (hkeep W (Off.refl _ _)).1
  have HJ := Lib.hid hJ; have HJx := Lib.hid hJx; have HX := Lib.hid hX; have HY := Lib.hid hY; have H0 := Lib.hid h0; have Hkeep := Lib.hid hkeep
  clear hJ hJx hX hY h0 hbox hrd hkeep hXN
  have hw1 : IntKind.i64.wrap ((kids.length : Int) - 1) = (kids.length : Int) - 1 := by rw [IntKind.wrap_i64]; omega
  gi_wp2
  clear c0' hw1
  gi_loopg [3] kids.length (fun g i wr => ∃ (m : Nat) (z : Int) (X' : Nat → Prop), g = kids.length - m ∧ m ≤ kids.length ∧ i = .int .i64 z ∧ Hid (z = (kids.length : Int) - 1 - m) ∧ J m X' wr ∧ Grew X W X' ∧ Off X W wr)
  case atStart => exact ⟨0, (kids.length : Int) - 1, X, rfl, Nat.zero_le _, rfl, Lib.hid (by simp), H0.out, Grew.refl _ _, Off.refl _ _⟩
  case round =>
    obtain ⟨m, z, X', hg, hm, rfl, hz, hj, hgr, hoff⟩ := hrel
    obtain ⟨c0', hr0⟩ := Hkeep.out wr hoff
    by_cases hlt : m < kids.length
    · obtain ⟨j, hjm⟩ : ∃ j : Nat, kids.length = j + 1 + m := ⟨kids.length - 1 - m, by omega⟩
      have hzj : z = (j : Int) := by rw [hz.out]; omega
      subst hzj
      have hjl : j < kids.length := by omega
      obtain ⟨b, o, rfl, hb, e1, _⟩ := intE_at hr0 hjl
      have hkE : m < (backE kids).length := by rw [backE_length]; exact hlt
      have henc : (backE kids)[m] = #[.int .i64 (j : Int), .int .i64 kids[j]] := by
        rw [backE_get, show kids.length - 1 - m = j by omega, List.getD_eq_getElem?_getD, List.getElem?_eq_getElem hjl]
        rfl
      obtain ⟨fn, tmps, assign, body, hy, hR⟩ := HY.out m X' wr hkE hj
      rw [henc] at hy
      have HR := Lib.hid hR; have Hj := Lib.hid hj; have Hgr := Lib.hid hgr; have Hoff := Lib.hid hoff; have Hjm := Lib.hid hjm
      have hjk : (j : Int) < (kids.length : Int) := by omega
      have hwj : IntKind.i64.wrap ((j : Int) - 1) = (j : Int) - 1 := by rw [IntKind.wrap_i64]; omega
      clear hR hj hgr hoff henc hr0 hjm hz
      generalize kids[j] = x at *
      gi_wp2
      refine HR.out.mono ?_
      rintro e W3 ⟨X3, hg3, ho3, h3⟩
      have hoff3 : Off X W W3 := Hoff.out.trans' ho3 (fun b hb => Hgr.out b hb)
      have hgr3 : Grew X W X3 := Hgr.out.trans hg3 Hoff.out.size
      have Hoff3 := Lib.hid hoff3; have Hgr3 := Lib.hid hgr3
      clear hoff3 hgr3 hg3 ho3
      rcases h3 with ⟨rfl, hj3⟩ | ⟨rfl, hj3⟩
      · have Hj3 := Lib.hid hj3; clear hj3
        gi_wp2
        gi_roundg (kids.length - (m + 1))
        case measure => omega
        case rel => exact ⟨m + 1, (j : Int) - 1, X3, rfl, by omega, rfl, Lib.hid (by have := Hjm.out; omega), Hj3.out, Hgr3.out, Hoff3.out⟩
      · have Hj3 := Lib.hid hj3; clear hj3
        gi_wp2
        refine bodyPost_ret (results_none rfl _ _ _) rfl ?_
        exact ⟨⟨_, rfl⟩, X3, Hgr3.out, Hoff3.out.mono (fun b _ hb => .inl hb), .inr ⟨m, hkE, Hj3.out⟩⟩
    · obtain rfl : m = kids.length := by omega
      have hz1 : z = -1 := by rw [hz.out]; omega
      subst hz1
      have Hj := Lib.hid hj; have Hgr := Lib.hid hgr; have Hoff := Lib.hid hoff
      clear hj hgr hoff hz hr0
      gi_wp2
      first | refine bodyPost_end (results_none rfl _ _ _) rfl ?_ | refine bodyPost_ret (results_none rfl _ _ _) rfl ?_
      refine ⟨⟨_, rfl⟩, X', Hgr.out, Hoff.out.mono (fun b _ hb => .inl hb), .inl ?_⟩
      rw [backE_length]
      exact Hj.out
end Go.Proofs.YthdenkkllpkplaaGreat.BackIt
end
section
/- As Seq; the body may also read what stands at R, which the iterator leaves alone. General: no program. Printed by seqr.py. -/
namespace Go.Proofs.YthdenkkllpkplaaGreat.SeqR
open Go Go.RowKit Go.Proofs.YthdenkkllpkplaaGreat.Seq
set_option linter.unusedVariables false

def FootR {ι : Type} (R : Nat → Prop) (J : ι → (Nat → Prop) → World → Prop) : Prop :=
  (∀ k X W W', J k X W → Off (fun b => ¬ X b ∧ ¬ R b) W W' → J k X W') ∧ (∀ k X W b, J k X W → X b → b < W.heap.size)
theorem Foot.toR {ι : Type} {R : Nat → Prop} {J : ι → (Nat → Prop) → World → Prop} (h : Foot J) : FootR R J := ⟨fun k X W W' hj ho => h.1 k X W W' hj (ho.mono (fun b _ hb => hb.1)), h.2⟩
/-- THE ITERATOR's CONTRACT: it hands out encs, one behind the other, unless it is told to stop. -/
def SeqCR (P : Program) (gf : Nat) (lb : Array Value) (encs : List Value) (Y Z R : Nat → Prop) (Wc : World → Prop) : Prop :=
  ∀ (l : Nat) (J Jx : Nat → (Nat → Prop) → World → Prop) (X : Nat → Prop) (W : World), Wc W → FootR R J → FootR R Jx → (∀ b, X b → ¬ Y b ∧ ¬ Z b) → J 0 X W →
    (∀ k X W (hk : k < encs.length), J k X W → YieldAt Fence.wide 0 P l #[encs[k]] W (RoundR X W (J (k + 1)) (Jx k))) →
    CallsIn Fence.wide 0 P gf (#[.func (.yield l) #[] #[]] ++ lb) W (SeqR X Y W (J encs.length) (fun X' W' => ∃ k, k < encs.length ∧ Jx k X' W'))

theorem SeqCR.plain {P : Program} {gf : Nat} {lb : Array Value} {encs : List Value} {Y Z R : Nat → Prop} {Wc : World → Prop} (h : SeqCR P gf lb encs Y Z R Wc) : SeqC P gf lb encs Y Z Wc :=
  fun l J Jx X W hW hJ hJx hX h0 hY => h l J Jx X W hW (Foot.toR hJ) (Foot.toR hJx) hX h0 hY

/-- THE LOOP. The assignment to the loop's variable is a plain move (a₁ k is the activation behind it). -/
theorem wpIn_rangeR {P : Program} {g : Operand} {pt : Tmp} {assign body : Code} {Q : Exit → Act → World → Prop} {a : Act} {w : World}
    {gf : Nat} {lb : Array Value} (hg : a.eval g = .func (.func gf) #[] lb) (eg : ∀ args w, (callFunc gf args).run P w = .ok (.enter gf args) w)
    {encs : List Value} {Y Z R : Nat → Prop} {Wc : World → Prop} (hseq : SeqCR P gf lb encs Y Z R Wc)
    (hWc : ∀ W, Off (fun _ => False) w W → Wc W)
    (I : Nat → (Nat → Prop) → World → Prop) (Ix : Code → Nat → (Nat → Prop) → World → Prop) (hI : FootR R I) (hIx : ∀ c, FootR R (Ix c)) (X : Nat → Prop)
    (hX : ∀ b, X b → ¬ Y b ∧ ¬ Z b) (h0 : I 0 X w) (hYZ : ∀ b, Y b ∨ Z b → b < w.heap.size) (hR : ∀ b, R b → b < w.heap.size) (a₁ : Nat → Act)
    (hassign : ∀ (l k : Nat) (hk : k < encs.length) (W : World) (K : Act → World → Prop), K (a₁ k) W →
      assign.wpIn (Fence.wide.inRound l) 0 P (Exit.then K (fun _ _ _ => False)) { tmps := a.tmps.setIfInBounds pt encs[k], defers := [] } W)
    (hbody : ∀ (l k : Nat) (hk : k < encs.length) (X : Nat → Prop) (W : World), I k X W → body.wpIn (Fence.wide.inRound l) 0 P (bodyR X W (I (k + 1)) (fun c => Ix c k)) (a₁ k) W)
    (hdone : ∀ (D : Nat) (X' : Nat → Prop) (W : World), w.heap.size ≤ D → ¬ X' D → Grew X w X' → Off (fun b => X b ∨ Y b) w W → I encs.length X' W → W.heap[D]? = some (.deferred (some [])) → Q .normal { a with defers := CollD D :: a.defers } W)
    (hstop : ∀ (D : Nat) (c : Code) (k : Nat) (X' : Nat → Prop) (W : World), k < encs.length → w.heap.size ≤ D → ¬ X' D → Grew X w X' → Off (fun b => X b ∨ Y b) w W → Ix c k X' W → W.heap[D]? = some (.deferred (some [])) →
      c.wpIn Fence.wide 0 P Q { a with defers := CollD D :: a.defers } W) :
    (Code.rangeFunc g #[pt] assign body).wpIn Fence.wide 0 P Q a w := by
  refine wpIn_rangeFunc ?_
  intro fn hfn
  obtain ⟨rec, hrec⟩ : ∃ rec : LoopState → Option Code → Loop, rec = fun st pe => { state := st, pending := pe, fn, tmps := a.tmps, params := #[pt], assign, body, defers := w.heap.size } := ⟨_, rfl⟩
  obtain ⟨W1, hW1⟩ : ∃ W1, (w.alloc (.deferred (some []))).alloc (.loop (rec .ready none)) = W1 := ⟨_, rfl⟩
  have hL1 : W1.heap[w.heap.size + 1]? = some (.loop (rec .ready none)) := by
    rw [← hW1]; have := World.alloc_heap_new (w.alloc (.deferred (some []))) (.loop (rec .ready none)); rwa [World.size_alloc] at this
  have hK1 : W1.heap[w.heap.size]? = some (.deferred (some [])) := by
    rw [← hW1]; exact (Below.heap_alloc _ _ _ (by simp)).trans (World.alloc_heap_new w _)
  have hOff1 : ∀ Y', Off Y' w W1 := fun Y' => by rw [← hW1]; exact (Off.alloc _ _ _).trans (Off.alloc _ _ _)
  have hs1 : W1.heap.size = w.heap.size + 2 := by rw [← hW1]; simp
  have hI1 : I 0 X W1 := hI.1 0 X w W1 h0 (hOff1 _)
  have hXlt : ∀ b, X b → b < w.heap.size := fun b hb => hI.2 0 X w b h0 hb
  refine ⟨w.heap.size + 1, [{ target := .collected w.heap.size, args := #[] }], W1, { target := .fn (.func gf) lb, args := #[.func (.yield (w.heap.size + 1)) #[] #[]] }, W1, gf,
    #[.func (.yield (w.heap.size + 1)) #[] #[]] ++ lb, W1, ?_, ?_, ?_, ?_, fun h => by simp [Fence.wide] at h, ?_⟩
  · rw [← hW1, hrec]; exact run_enterLoop_outer _ _ _ _ _
  · simp only [resolve, hg]
    simp [go_sem]
  · intro f' hf'; trivial
  · simp [invoke, go_sem, eg]
  · -- the two blocks of book-keeping beside the caller's own
    let Bk : (Nat → Prop) → (Nat → Prop) → Prop := fun X' X0 => ∀ b, X' b ↔ (X0 b ∨ b = w.heap.size ∨ b = w.heap.size + 1)
    let J : Nat → (Nat → Prop) → World → Prop := fun k X' W => ∃ X0, Bk X' X0 ∧ ¬ X0 w.heap.size ∧ ¬ X0 (w.heap.size + 1) ∧ Grew X w X0 ∧ I k X0 W ∧ W.heap[w.heap.size + 1]? = some (.loop (rec .ready none)) ∧ W.heap[w.heap.size]? = some (.deferred (some []))
    let Jx : Nat → (Nat → Prop) → World → Prop := fun k X' W => ∃ c X0, Bk X' X0 ∧ ¬ X0 w.heap.size ∧ ¬ X0 (w.heap.size + 1) ∧ Grew X w X0 ∧ Ix c k X0 W ∧ W.heap[w.heap.size + 1]? = some (.loop (rec .done (some c))) ∧ W.heap[w.heap.size]? = some (.deferred (some []))
    have keep : ∀ {X' X0 : Nat → Prop} {W W' : World} {o : Obj} {b : Nat}, Bk X' X0 → X' b → Off (fun b => ¬ X' b ∧ ¬ R b) W W' → W.heap[b]? = some o → W'.heap[b]? = some o :=
      fun {X' X0 W W' o b} hbk hx ho hb => (ho.block b (Array.getElem?_eq_some_iff.1 hb).1 (fun h => h.1 hx)).trans hb
    have hJ : FootR R J := by
      refine ⟨?_, ?_⟩
      · rintro k X' W W' ⟨X0, hbk, n1, n2, hgr, hi, hl, hk⟩ ho
        exact ⟨X0, hbk, n1, n2, hgr, hI.1 _ _ _ _ hi (ho.mono (fun b _ hn => ⟨fun h0 => hn.1 ((hbk b).2 (.inl h0)), hn.2⟩)), keep hbk ((hbk _).2 (.inr (.inr rfl))) ho hl, keep hbk ((hbk _).2 (.inr (.inl rfl))) ho hk⟩
      · rintro k X' W b ⟨X0, hbk, n1, n2, hgr, hi, hl, hk⟩ hb
        rcases (hbk b).1 hb with h | rfl | rfl
        · exact hI.2 _ _ _ _ hi h
        · exact (Array.getElem?_eq_some_iff.1 hk).1
        · exact (Array.getElem?_eq_some_iff.1 hl).1
    have hJx : FootR R Jx := by
      refine ⟨?_, ?_⟩
      · rintro k X' W W' ⟨c, X0, hbk, n1, n2, hgr, hi, hl, hk⟩ ho
        exact ⟨c, X0, hbk, n1, n2, hgr, (hIx c).1 _ _ _ _ hi (ho.mono (fun b _ hn => ⟨fun h0 => hn.1 ((hbk b).2 (.inl h0)), hn.2⟩)), keep hbk ((hbk _).2 (.inr (.inr rfl))) ho hl, keep hbk ((hbk _).2 (.inr (.inl rfl))) ho hk⟩
      · rintro k X' W b ⟨c, X0, hbk, n1, n2, hgr, hi, hl, hk⟩ hb
        rcases (hbk b).1 hb with h | rfl | rfl
        · exact (hIx c).2 _ _ _ _ hi h
        · exact (Array.getElem?_eq_some_iff.1 hk).1
        · exact (Array.getElem?_eq_some_iff.1 hl).1
    have hXY : ∀ b, (X b ∨ b = w.heap.size ∨ b = w.heap.size + 1) → ¬ Y b ∧ ¬ Z b := by
      rintro b (h | rfl | rfl)
      · exact hX b h
      · exact ⟨fun h => by have := hYZ _ (.inl h); omega, fun h => by have := hYZ _ (.inr h); omega⟩
      · exact ⟨fun h => by have := hYZ _ (.inl h); omega, fun h => by have := hYZ _ (.inr h); omega⟩
    refine (hseq (w.heap.size + 1) J Jx (fun b => X b ∨ b = w.heap.size ∨ b = w.heap.size + 1) W1 (hWc W1 (hOff1 _)) hJ hJx hXY ⟨X, fun b => Iff.rfl, fun h => by have := hXlt _ h; omega, fun h => by have := hXlt _ h; omega, Grew.refl _ _, hI1, hL1, hK1⟩ ?_).mono ?_
    · -- one round
      rintro k X' W hk ⟨X0, hbk, n1, n2, hgr, hi, hl, hd⟩
      have hlt : w.heap.size + 1 < W.heap.size := (Array.getElem?_eq_some_iff.1 hl).1
      have hy := run_yield (P := P) (args := #[encs[k]]) hl (by rw [hrec]; rfl)
      rw [hrec] at hy
      refine ⟨fn, _, assign, body, hy, roundIn_of_wpIn hfn ?_⟩
      have hz : ((#[pt] : Array Tmp).zip #[encs[k]]).foldl (fun t (p, v) => t.setIfInBounds p v) a.tmps = a.tmps.setIfInBounds pt encs[k] := by simp
      have ha := hassign (w.heap.size + 1) k hk W (fun a₁' w₁ => ∃ w₂, (Instr.beginRound (w.heap.size + 1)).run P w₁ = .ok () w₂ ∧ body.wpIn (Fence.wide.inRound (w.heap.size + 1)) 0 P (roundPost P (w.heap.size + 1) (RoundR X' W (J (k + 1)) (Jx k))) a₁' w₂) ?_
      · rw [← hz] at ha; exact ha
      refine ⟨_, run_beginRound hl (by rw [hrec]), ?_⟩
      have hl2 : (W.putObj (w.heap.size + 1) (.loop { rec .ready none with state := .busy })).heap[w.heap.size + 1]? = some (.loop { rec .ready none with state := .busy }) := World.putObj_heap_same hlt
      have hd2 : (W.putObj (w.heap.size + 1) (.loop { rec .ready none with state := .busy })).heap[w.heap.size]? = some (.deferred (some [])) := (World.putObj_heap_other (by omega)).trans hd
      have ho2 : Off (fun b => b = w.heap.size + 1) W (W.putObj (w.heap.size + 1) (.loop { rec .ready none with state := .busy })) := Off.putObj _ _ _ rfl
      have hi2 : I k X0 (W.putObj (w.heap.size + 1) (.loop { rec .ready none with state := .busy })) := hI.1 _ _ _ _ hi (ho2.mono (fun b _ e => ⟨fun h => n2 (e ▸ h), fun h => by have := hR b h; omega⟩))
      refine wpIn_mono (hbody _ k hk X0 _ hi2) ?_
      have fin : ∀ (jump : Option Code) (X3 : Nat → Prop) (W3 : World), Grew X0 (W.putObj (w.heap.size + 1) (.loop { rec .ready none with state := .busy })) X3 → Off X0 (W.putObj (w.heap.size + 1) (.loop { rec .ready none with state := .busy })) W3 →
          (Instr.endRound (w.heap.size + 1) jump).run P W3 = .ok (.bool jump.isNone) (W3.putObj (w.heap.size + 1) (.loop (rec (if jump.isNone then .ready else .done) jump))) ∧
          (W3.putObj (w.heap.size + 1) (.loop (rec (if jump.isNone then .ready else .done) jump))).heap[w.heap.size + 1]? = some (.loop (rec (if jump.isNone then .ready else .done) jump)) ∧
          (W3.putObj (w.heap.size + 1) (.loop (rec (if jump.isNone then .ready else .done) jump))).heap[w.heap.size]? = some (.deferred (some [])) ∧
          ¬ X3 w.heap.size ∧ ¬ X3 (w.heap.size + 1) ∧ Grew X w X3 ∧ Off X' W (W3.putObj (w.heap.size + 1) (.loop (rec (if jump.isNone then .ready else .done) jump))) ∧
          Grew X' W (fun b => X3 b ∨ b = w.heap.size ∨ b = w.heap.size + 1) ∧ Off (fun b => ¬ X3 b ∧ ¬ R b) W3 (W3.putObj (w.heap.size + 1) (.loop (rec (if jump.isNone then .ready else .done) jump))) := fun jump X3 W3 hg3 ho3 => by
        have hsz : (W.putObj (w.heap.size + 1) (.loop { rec .ready none with state := .busy })).heap.size = W.heap.size := World.putObj_size
        have hl3 := (ho3.block (w.heap.size + 1) (by rw [hsz]; omega) n2).trans hl2
        have hd3 := (ho3.block w.heap.size (by rw [hsz]; omega) n1).trans hd2
        have m1 : ¬ X3 w.heap.size := fun h => by rcases hg3 _ h with h | h; exact n1 h; rw [hsz] at h; omega
        have m2 : ¬ X3 (w.heap.size + 1) := fun h => by rcases hg3 _ h with h | h; exact n2 h; rw [hsz] at h; omega
        have hr := run_endRound (P := P) jump hl3
        rw [hrec] at hr ⊢
        refine ⟨hr, World.putObj_heap_same (Array.getElem?_eq_some_iff.1 hl3).1, (World.putObj_heap_other (by omega)).trans hd3, m1, m2, ?_, ?_, ?_, Off.putObj _ _ _ ⟨m2, fun h => by have := hR _ h; omega⟩⟩
        · exact hgr.trans (W' := W) (fun b h => by rcases hg3 b h with h | h; exact .inl h; rw [hsz] at h; exact .inr h) (by omega)
        · have t1 : Off X' W (W.putObj (w.heap.size + 1) (.loop { rec .ready none with state := .busy })) := Off.putObj _ _ _ ((hbk _).2 (.inr (.inr rfl)))
          have t2 : Off X' (W.putObj (w.heap.size + 1) (.loop { rec .ready none with state := .busy })) W3 := ho3.mono (fun b _ h => (hbk b).2 (.inl h))
          rw [hrec] at t1 t2
          exact (t1.trans t2).trans (Off.putObj _ _ _ ((hbk _).2 (.inr (.inr rfl))))
        · rintro b (h | rfl | rfl)
          · rcases hg3 b h with h | h
            · exact .inl ((hbk b).2 (.inl h))
            · rw [hsz] at h; exact .inr h
          · exact .inl ((hbk _).2 (.inr (.inl rfl)))
          · exact .inl ((hbk _).2 (.inr (.inr rfl)))
      rintro e a3 W3 hp
      cases e with
      | normal =>
        obtain ⟨X3, hg3, ho3, hi3⟩ := hp
        obtain ⟨hr, hl4, hd4, m1, m2, hgx, hof, hgf, hoff⟩ := fin none X3 W3 hg3 ho3
        exact ⟨_, _, hr, _, hgf, hof, .inl ⟨rfl, X3, fun b => Iff.rfl, m1, m2, hgx, hI.1 _ _ _ _ hi3 hoff, hl4, hd4⟩⟩
      | ret =>
        obtain ⟨X3, hg3, ho3, hi3⟩ := hp
        obtain ⟨hr, hl4, hd4, m1, m2, hgx, hof, hgf, hoff⟩ := fin (some .ret) X3 W3 hg3 ho3
        exact ⟨_, _, hr, _, hgf, hof, .inr ⟨rfl, .ret, X3, fun b => Iff.rfl, m1, m2, hgx, (hIx _).1 _ _ _ _ hi3 hoff, hl4, hd4⟩⟩
      | exit id =>
        obtain ⟨X3, hg3, ho3, hi3⟩ := hp
        obtain ⟨hr, hl4, hd4, m1, m2, hgx, hof, hgf, hoff⟩ := fin (some (.exit id)) X3 W3 hg3 ho3
        exact ⟨_, _, hr, _, hgf, hof, .inr ⟨rfl, .exit id, X3, fun b => Iff.rfl, m1, m2, hgx, (hIx _).1 _ _ _ _ hi3 hoff, hl4, hd4⟩⟩
      | goto t =>
        obtain ⟨X3, hg3, ho3, hi3⟩ := hp
        obtain ⟨hr, hl4, hd4, m1, m2, hgx, hof, hgf, hoff⟩ := fin (some (.goto t)) X3 W3 hg3 ho3
        exact ⟨_, _, hr, _, hgf, hof, .inr ⟨rfl, .goto t, X3, fun b => Iff.rfl, m1, m2, hgx, (hIx _).1 _ _ _ _ hi3 hoff, hl4, hd4⟩⟩
      | panic ch => exact hp.elim
      | outgrown => exact hp.elim
    · -- behind the iterator
      rintro e W2 ⟨⟨v, rfl⟩, X', hgX, hoff, h⟩
      have hOffw : ∀ (X0 : Nat → Prop) (o : Obj), Off (fun b => X b ∨ Y b) w (W2.putObj (w.heap.size + 1) o) := fun X0 o => by
        have t := (hOff1 (fun b => X b ∨ Y b)).trans' (hoff.trans (Off.putObj W2 (w.heap.size + 1) o (.inl (.inr (.inr rfl))))) (fun b hb => by
          rcases hb with (h | rfl | rfl) | h
          · exact .inl (.inl h)
          · exact .inr (Nat.le_refl _)
          · exact .inr (by omega)
          · exact .inl (.inr h))
        exact t
      rcases h with ⟨X0, hbk, n1, n2, hgr, hi, hl, hd⟩ | ⟨k, hk, c, X0, hbk, n1, n2, hgr, hi, hl, hd⟩
      · refine ⟨none, _, by have := run_endLoop (P := P) hl (by rw [hrec]; simp); rw [hrec] at this; exact this, ?_⟩
        exact hdone w.heap.size X0 _ (Nat.le_refl _) n1 hgr (hOffw X0 _) (hI.1 _ _ _ _ hi (Off.putObj _ _ _ ⟨n2, fun h => by have := hR _ h; omega⟩)) ((World.putObj_heap_other (by omega)).trans hd)
      · refine ⟨some c, _, by have := run_endLoop (P := P) hl (by rw [hrec]; simp); rw [hrec] at this; exact this, ?_⟩
        exact hstop w.heap.size c k X0 _ hk (Nat.le_refl _) n1 hgr (hOffw X0 _) ((hIx c).1 _ _ _ _ hi (Off.putObj _ _ _ ⟨n2, fun h => by have := hR _ h; omega⟩)) ((World.putObj_heap_other (by omega)).trans hd)
end Go.Proofs.YthdenkkllpkplaaGreat.SeqR
end
section
/- What the laws of operations say, of the plain functions: an unknown node, who is named, a list of operations. No program. -/
namespace Go.Proofs.YthdenkkllpkplaaGreat.FS
open Go.Proofs.YthdenkkllpkplaaGreat.WS
set_option linter.unusedVariables false

theorem mayO_mk {o : Opn} (hk : 1 ≤ o.kind ∧ o.kind ≤ 8) (hn : o.name.size ≤ 255) (ht : o.text.size ≤ 255) (h1 : 1 ≤ shapeN o.kind ∨ o.id = 0) (h2 : 2 ≤ shapeN o.kind ∨ o.to = 0) (h3 : 3 ≤ shapeN o.kind ∨ o.at_ = 0) (h4 : shapeA o.kind = true ∨ o.name.size = 0) (h5 : shapeT o.kind = true ∨ o.text.size = 0) : mayO o = true := by
  unfold mayO
  simp only [Bool.and_eq_true, Bool.or_eq_true, decide_eq_true_eq, beq_iff_eq]
  exact ⟨⟨⟨⟨⟨⟨⟨hk, hn⟩, ht⟩, h1⟩, h2⟩, h3⟩, h4⟩, h5⟩
theorem mayO_4 (n p a : Int) : mayO { kind := 4, id := n, «to» := p, at_ := a } = true :=
  mayO_mk (show (1 : Int) ≤ 4 ∧ (4 : Int) ≤ 8 by decide) (show (⟨#[]⟩ : ByteArray).size ≤ 255 by decide) (show (⟨#[]⟩ : ByteArray).size ≤ 255 by decide) (.inl (show 1 ≤ shapeN 4 by decide)) (.inl (show 2 ≤ shapeN 4 by decide)) (.inl (show 3 ≤ shapeN 4 by decide)) (.inr rfl) (.inr rfl)
theorem mayO_5 (n : Int) : mayO { kind := 5, id := n } = true :=
  mayO_mk (show (1 : Int) ≤ 5 ∧ (5 : Int) ≤ 8 by decide) (show (⟨#[]⟩ : ByteArray).size ≤ 255 by decide) (show (⟨#[]⟩ : ByteArray).size ≤ 255 by decide) (.inl (show 1 ≤ shapeN 5 by decide)) (.inr rfl) (.inr rfl) (.inr rfl) (.inr rfl)
theorem mayO_6 (n : Int) {s t : ByteArray} (hs : s.size ≤ 255) (ht : t.size ≤ 255) : mayO { kind := 6, id := n, name := s, text := t } = true :=
  mayO_mk (show (1 : Int) ≤ 6 ∧ (6 : Int) ≤ 8 by decide) hs ht (.inl (show 1 ≤ shapeN 6 by decide)) (.inr rfl) (.inr rfl) (.inl rfl) (.inl rfl)
theorem mayO_7 (n : Int) {s : ByteArray} (hs : s.size ≤ 255) : mayO { kind := 7, id := n, name := s } = true :=
  mayO_mk (show (1 : Int) ≤ 7 ∧ (7 : Int) ≤ 8 by decide) hs (show (⟨#[]⟩ : ByteArray).size ≤ 255 by decide) (.inl (show 1 ≤ shapeN 7 by decide)) (.inr rfl) (.inr rfl) (.inl rfl) (.inr rfl)
theorem mayO_1 {s : ByteArray} (hs : s.size ≤ 255) : mayO { kind := 1, name := s } = true :=
  mayO_mk (show (1 : Int) ≤ 1 ∧ (1 : Int) ≤ 8 by decide) hs (show (⟨#[]⟩ : ByteArray).size ≤ 255 by decide) (.inr rfl) (.inr rfl) (.inr rfl) (.inl rfl) (.inr rfl)
theorem mayO_23 {k : Int} (hk : k = 2 ∨ k = 3) {t : ByteArray} (ht : t.size ≤ 255) : mayO { kind := k, text := t } = true :=
  mayO_mk (show (1 : Int) ≤ k ∧ k ≤ 8 by omega) (show (⟨#[]⟩ : ByteArray).size ≤ 255 by decide) ht (.inr rfl) (.inr rfl) (.inr rfl) (.inr rfl) (.inl (by rcases hk with rfl | rfl <;> rfl))
theorem checks_known {f : Fo} {o : Opn} (hk : 4 ≤ o.kind) : ∃ t, checks f o = (70, knownB f o) :: t := by
  unfold checks
  rw [if_neg (by omega), if_neg (by omega)]
  repeat' split
  all_goals exact ⟨_, rfl⟩
theorem one_unknown {f : Fo} {o : Opn} (hm : mayO o = true) (hk : 4 ≤ o.kind) (hn : isNode f o.id = false) : oneE f o = 70 := by
  obtain ⟨t, ht⟩ := checks_known (f := f) hk
  unfold oneE
  rw [if_pos hm, ht]
  unfold firstE knownB
  simp [hn]
theorem one_arg {f : Fo} {o : Opn} (hm : mayO o = false) : oneE f o = 1 := by
  unfold oneE
  rw [hm]
  rfl
/-- Does o name node i, or is i the parent of the node that it names? -/
def namedF (f : Fo) (o : Opn) (i : Nat) : Bool := decide (4 ≤ o.kind) && (o.id == i || (o.kind == 4 && o.to == i) || (isNode f o.id && (at_ f o.id).parent == i))
theorem one_keeps {f : Fo} {o : Opn} (hm : mayB f = true) (he : oneE f o = 0) : f.length ≤ (oneF f o).length ∧ (oneF f o).length ≤ f.length + 1 ∧ ∀ i : Nat, i < f.length → namedF f o i = false → at_ (oneF f o) i = at_ f i := by
  obtain ⟨hmo, hch⟩ := one_kinds he
  have hk := (mayO_kind hmo).1
  have h := may_is hm
  unfold oneF
  rw [if_pos he]
  by_cases k3 : o.kind ≤ 3
  · unfold doF
    rw [if_pos k3]
    unfold freshF
    refine ⟨by simp, by simp, fun i hi _ => ?_⟩
    rw [at_snoc, if_neg (by omega)]
  have h4 : 4 ≤ o.kind := by omega
  obtain ⟨t, ht⟩ := checks_known (f := f) h4
  have hkn : isNode f o.id = true := hch (70, knownB f o) (by rw [ht]; simp)
  obtain ⟨n, hoi, hn⟩ := node_nat hkn
  have hset : ∀ nd : Nd, f.length ≤ (f.set o.id.toNat nd).length ∧ (f.set o.id.toNat nd).length ≤ f.length + 1 ∧ ∀ i : Nat, i < f.length → namedF f o i = false → at_ (f.set o.id.toNat nd) i = at_ f i := fun nd => by
    refine ⟨by simp, by simp, fun i hi hno => ?_⟩
    unfold namedF at hno
    rw [decide_eq_true h4, Bool.true_and, Bool.or_eq_false_iff, Bool.or_eq_false_iff, hoi] at hno
    have h1 := hno.1.1
    rw [beq_eq_false_iff_ne] at h1
    rw [hoi, Int.toNat_natCast, set_at hn, if_neg (fun e => h1 e.symm)]
  unfold doF
  rw [if_neg k3]
  by_cases k4 : o.kind = 4
  · rw [if_pos k4]
    unfold checks at hch
    rw [if_neg (by omega), if_neg (by omega), if_pos k4] at hch
    obtain ⟨t, hot, ht'⟩ := node_nat (k := o.to) (hch (70, isNode f o.to) (by simp))
    refine ⟨by rw [insert_length]; omega, by rw [insert_length]; omega, fun i hi hno => ?_⟩
    unfold namedF at hno
    rw [decide_eq_true h4, Bool.true_and, Bool.or_eq_false_iff, Bool.or_eq_false_iff, hkn, Bool.true_and, k4, hoi, hot] at hno
    obtain ⟨⟨h1, h2⟩, h3⟩ := hno
    rw [beq_eq_false_iff_ne] at h1 h3
    have h2' : ¬ (t : Int) = (i : Int) := by simpa using h2
    rw [insert_at h hoi hot hn ht', if_neg (fun e => h1 e.symm), if_neg (fun e => h2' e.symm), filter_none (not_kid h h3)]
  rw [if_neg k4]
  by_cases k5 : o.kind = 5
  · rw [if_pos k5]
    refine ⟨by rw [take_length]; omega, by rw [take_length]; omega, fun i hi hno => ?_⟩
    unfold namedF at hno
    rw [decide_eq_true h4, Bool.true_and, Bool.or_eq_false_iff, Bool.or_eq_false_iff, hkn, Bool.true_and, hoi] at hno
    obtain ⟨⟨h1, h2⟩, h3⟩ := hno
    rw [beq_eq_false_iff_ne] at h1 h3
    rw [hoi, take_at h hn, if_neg (fun e => h1 e.symm), filter_none (not_kid h h3)]
  rw [if_neg k5]
  repeat' split
  all_goals exact hset _
/-! A list of operations, up to the first error. -/
noncomputable def allE : Fo → List Opn → Int
  | _, [] => 0
  | f, o :: l => if oneE f o = 0 then allE (oneF f o) l else oneE f o
noncomputable def allN : Fo → List Opn → Nat
  | _, [] => 0
  | f, o :: l => if oneE f o = 0 then allN (oneF f o) l + 1 else 0
noncomputable def allG : Fo → List Opn → Fo
  | f, [] => f
  | f, o :: l => if oneE f o = 0 then allG (oneF f o) l else f
noncomputable def allF (f : Fo) (l : List Opn) : Fo := if allE f l = 0 then allG f l else f
theorem allG_may : ∀ (l : List Opn) (f : Fo), mayB f = true → mayB (allG f l) = true
  | [], f, h => h
  | o :: l, f, h => by
    unfold allG
    split
    · exact allG_may l _ (one_may h o)
    · exact h
theorem allF_may {f : Fo} (h : mayB f = true) (l : List Opn) : mayB (allF f l) = true := by
  unfold allF
  split
  · exact allG_may l f h
  · exact h
theorem allN_le : ∀ (l : List Opn) (f : Fo), allN f l ≤ l.length
  | [], f => Nat.le_refl _
  | o :: l, f => by
    unfold allN
    split
    · have := allN_le l (oneF f o); simp; omega
    · simp
theorem allN_full : ∀ (l : List Opn) (f : Fo), allE f l = 0 → allN f l = l.length
  | [], f, _ => rfl
  | o :: l, f, h => by
    unfold allE at h
    unfold allN
    split at h
    · rename_i h0
      rw [if_pos h0, allN_full l _ h]; rfl
    · rename_i h0; exact absurd h h0
theorem allN_lt : ∀ (l : List Opn) (f : Fo), allE f l ≠ 0 → allN f l < l.length
  | [], f, h => absurd rfl h
  | o :: l, f, h => by
    unfold allE at h
    unfold allN
    split at h
    · rename_i h0
      rw [if_pos h0]
      have := allN_lt l _ h
      simp; omega
    · rename_i h0
      rw [if_neg h0]; simp
theorem all_append : ∀ (a b : List Opn) (f : Fo), allE f (a ++ b) = (if allE f a = 0 then allE (allG f a) b else allE f a) ∧ allN f (a ++ b) = (if allE f a = 0 then a.length + allN (allG f a) b else allN f a) ∧ (allE f a = 0 → allG f (a ++ b) = allG (allG f a) b)
  | [], b, f => by simp [allE, allG]
  | o :: a, b, f => by
    obtain ⟨h1, h2, h3⟩ := all_append a b (oneF f o)
    by_cases h0 : oneE f o = 0
    · simp only [List.cons_append, allE, allN, allG, if_pos h0, h1, h2]
      refine ⟨trivial, ?_, h3⟩
      split
      · simp; omega
      · rfl
    · simp only [List.cons_append, allE, allN, allG, if_neg h0]
      exact ⟨trivial, trivial, fun h => absurd h h0⟩
end Go.Proofs.YthdenkkllpkplaaGreat.FS
end
section
/- walk: what it answers, plain; and the laws on it. No program. -/
namespace Go.Proofs.YthdenkkllpkplaaGreat.FS
open Go.Proofs.YthdenkkllpkplaaGreat.WS
set_option linter.unusedVariables false

def parentE (f : Fo) (i : Int) : Int × Int := if isNode f i = false then (0, 70) else if (at_ f i).parent = -1 then (0, 3) else ((at_ f i).parent, 0)
def kidsE (f : Fo) (i : Int) : List Int × Int := if isNode f i = false then ([], 70) else ((at_ f i).kids, 0)
def idxL (l : List Int) (x : Int) : Int := match l.findIdx? (fun y => y == x) with | some i => i | none => -1
def besideE (f : Fo) (i d : Int) : Int × Int :=
  if isNode f i = false then (0, 70)
  else if (at_ f i).parent = -1 then (0, 3)
  else if d < -(idxL (at_ f (at_ f i).parent).kids i) ∨ ((at_ f (at_ f i).parent).kids.length : Int) - idxL (at_ f (at_ f i).parent).kids i ≤ d then (0, 3)
  else ((at_ f (at_ f i).parent).kids.getD (idxL (at_ f (at_ f i).parent).kids i + d).toNat 0, 0)
def ownT (f : Fo) (k : Int) : List UInt8 := if (at_ f k).kind = 2 then (at_ f k).text.data.toList else []
noncomputable def contentL (f : Fo) (i : Int) : List UInt8 := (order f i).flatMap (ownT f)
def attrV (f : Fo) (i : Int) (s : ByteArray) : Option ByteArray := ((at_ f i).attrs.find? (fun a => decide (a.name = s))).map (·.value)
def attrErr (f : Fo) (i : Int) (s : ByteArray) : Int := if isNode f i = false then 70 else if (at_ f i).kind ≠ 1 then 71 else if (attrV f i s).isSome then 0 else 75
def attrVal (f : Fo) (i : Int) (s : ByteArray) : ByteArray := if attrErr f i s = 0 then (attrV f i s).getD ⟨#[]⟩ else ⟨#[]⟩
/-- The name of the attribute that is an id. -/
def idN : ByteArray := ⟨#[105, 100]⟩
def hitB (f : Fo) (text : ByteArray) (k : Int) : Bool := decide (attrErr f k idN = 0) && decide (attrVal f k idN = text) && decide (text.size ≠ 0)
noncomputable def byId (f : Fo) (text : ByteArray) : Option Int := (order f 0).find? (hitB f text)

/-! Orders. -/
section
variable {f : Fo} (h : IsMay f)
include h
theorem IsMay.fam : familyB f = true := may_family (is_may h)
theorem order_mem {i : Int} (hi : isNode f i = true) (j : Int) : j ∈ order f i ↔ isNode f j = true ∧ belowB f i j = true := by
  rw [mem_order h.fam h.climb hi]
  constructor
  · rintro ⟨h1, m, hm⟩
    exact ⟨h1, (below_iff (is_may h) h1).2 ⟨((node_iff _ _).1 hi).1, m, hm⟩⟩
  · rintro ⟨h1, h2⟩
    exact ⟨h1, ((below_iff (is_may h) h1).1 h2).2⟩
theorem order_count {i : Int} (hi : isNode f i = true) {k : Int} (hk : isNode f k = true) : (order f i).count k = if belowB f i k then 1 else 0 := by
  have hn := order_nodup h.fam h.climb hi
  by_cases hb : belowB f i k = true
  · rw [if_pos hb]
    have h1 := (List.nodup_iff_count.1 hn) k
    have h2 := List.count_pos_iff.2 ((order_mem h hi k).2 ⟨hk, hb⟩)
    omega
  · rw [if_neg hb]
    exact List.count_eq_zero_of_not_mem (fun hm => hb ((order_mem h hi k).1 hm).2)
omit h in
/-- The length of a list of small numbers is the sum of how often each is in it. -/
theorem length_counts : ∀ (n : Nat) (l : List Int), (∀ x ∈ l, 0 ≤ x ∧ x < n) → l.length = ((List.range n).map (fun k : Nat => l.count (k : Int))).sum
  | 0, l, hl => by
    cases l with
    | nil => rfl
    | cons x l => have := hl x (by simp); omega
  | n + 1, l, hl => by
    rw [List.range_succ, List.map_append, List.sum_append]
    have h1 := length_counts n (l.filter (fun x => decide (x ≠ (n : Int)))) (fun x hx => by
      obtain ⟨h2, h3⟩ := List.mem_filter.1 hx
      have := hl x h2
      simp at h3
      omega)
    have h2 : ∀ k ∈ List.range n, (l.filter (fun x => decide (x ≠ (n : Int)))).count (k : Int) = l.count (k : Int) := fun k hk => by
      have := List.mem_range.1 hk
      rw [List.count_filter (by simp; omega)]
    rw [List.map_congr_left h2] at h1
    rw [← h1]
    have h3 := List.length_eq_countP_add_countP (fun x => decide (x ≠ (n : Int))) (l := l)
    rw [List.countP_eq_length_filter] at h3
    have h4 : l.countP (fun a => decide ¬(decide (a ≠ (n : Int))) = true) = l.count (n : Int) := by
      unfold List.count
      apply List.countP_congr
      intro x _
      simp
    simp only [List.map_cons, List.map_nil, List.sum_cons, List.sum_nil, Nat.add_zero]
    omega
omit h in
theorem sum_swap {α β : Type} (c : α → β → Nat) : ∀ (l : List α) (m : List β), (l.map (fun x => (m.map (c x)).sum)).sum = (m.map (fun y => (l.map (fun x => c x y)).sum)).sum
  | [], m => by
    rw [List.map_nil, List.sum_nil]
    symm
    exact sum_zero _ (fun x hx => by
      obtain ⟨y, _, rfl⟩ := List.mem_map.1 hx
      rfl)
  | x :: l, m => by
    rw [List.map_cons, List.sum_cons, sum_swap c l m]
    have : ∀ (m : List β), (m.map (c x)).sum + (m.map (fun y => (l.map (fun x => c x y)).sum)).sum = (m.map (fun y => ((x :: l).map (fun x => c x y)).sum)).sum := by
      intro m
      induction m with
      | nil => rfl
      | cons y m ih =>
        simp only [List.map_cons, List.sum_cons] at ih ⊢
        omega
    exact this m
omit h in
theorem sum_ones : ∀ (n : Nat) (c : Nat → Nat), (∀ k, k < n → c k = 1) → ((List.range n).map c).sum = n
  | 0, _, _ => rfl
  | n + 1, c, h => by
    rw [List.range_succ, List.map_append, List.sum_append, sum_ones n c (fun k hk => h k (by omega))]
    simp [h n (by omega)]
omit h in
theorem sum_countP {α : Type} (p : α → Bool) : ∀ l : List α, (l.map (fun x => if p x then 1 else 0)).sum = l.countP p
  | [] => rfl
  | x :: l => by
    rw [List.map_cons, List.sum_cons, sum_countP p l, List.countP_cons]
    omega
/-- All nodes are in the orders of those that stand alone. -/
theorem tops_orders : ((topsL f).map (fun t => (order f t).length)).sum = f.length := by
  have h1 : ∀ t ∈ topsL f, (order f t).length = ((List.range f.length).map (fun k : Nat => if belowB f t k then 1 else 0)).sum := fun t ht => by
    have hn := (mem_tops.1 ht).1
    rw [length_counts f.length _ (fun x hx => (node_iff _ _).1 ((order_mem h hn x).1 hx).1)]
    congr 1
    exact List.map_congr_left (fun k hk => order_count h hn (nodeI (List.mem_range.1 hk)))
  rw [List.map_congr_left h1, sum_swap]
  exact sum_ones _ _ (fun k hk => by
    rw [sum_countP]
    exact top_one (is_may h) (nodeI hk))
omit h in
theorem countP_split {α : Type} {p q r : α → Bool} : ∀ {l : List α}, (∀ y ∈ l, p y = (q y || r y) ∧ ¬ (q y = true ∧ r y = true)) → l.countP p = l.countP q + l.countP r
  | [], _ => rfl
  | y :: l, h => by
    rw [List.countP_cons, List.countP_cons, List.countP_cons, countP_split (fun z hz => h z (by simp [hz]))]
    obtain ⟨h1, h2⟩ := h y (by simp)
    rw [h1]
    cases hq : q y <;> cases hr : r y <;> simp_all <;> omega
omit h in
theorem count_self (n x : Nat) (hx : x < n) : (List.range n).countP (fun k => decide (k = x)) = 1 := by
  have h1 : (List.range n).countP (fun k => decide (k = x)) = (List.range n).count x := by
    unfold List.count
    exact List.countP_congr (fun y _ => by simp)
  rw [h1]
  have h2 := (List.nodup_iff_count.1 (List.nodup_range (n := n))) x
  have h3 := List.count_pos_iff.2 (List.mem_range.2 hx)
  omega
/-- How many a node is below: as many as it is steps up. -/
theorem above_count : ∀ (n : Nat) {i : Int}, isNode f i = true → Up f n i → (List.range f.length).countP (fun k : Nat => belowB f k i) = n
  | 0, i, hi, hu => by have : i < 0 := hu; have := (node_iff f i).1 hi; omega
  | n + 1, i, hi, hu => by
    obtain ⟨x, rfl, hx⟩ := node_nat hi
    have hpar := h.par x hx
    by_cases hp : (at_ f (x : Int)).parent = -1
    · have hn0 : n = 0 := by
        cases n with
        | zero => rfl
        | succ n => have := hu.2.1; omega
      subst hn0
      rw [← count_self f.length x hx, Nat.zero_add]
      refine List.countP_congr (fun k hk => ?_)
      rw [below_iff (is_may h) hi, decide_eq_true_eq]
      constructor
      · intro hb
        by_cases e : k = x
        · exact e
        · rw [belowP_step (by omega) (by omega), hp] at hb
          exact absurd hb (belowP_end (by omega))
      · rintro rfl
        exact ⟨by omega, 0, rfl⟩
    · have hpn : isNode f (at_ f (x : Int)).parent = true := (node_iff _ _).2 ⟨by omega, hpar.2.1⟩
      have ih := above_count n hpn hu.2
      rw [countP_split (q := fun k => decide (k = x)) (r := fun k : Nat => belowB f k (at_ f (x : Int)).parent), count_self f.length x hx, ih]
      · omega
      · intro k hk
        have hkp := below_parent (is_may h) hi (by omega)
        refine ⟨?_, ?_⟩
        · rw [Bool.eq_iff_iff, below_iff (is_may h) hi, Bool.or_eq_true, decide_eq_true_eq, below_iff (is_may h) hpn]
          by_cases e : k = x
          · subst e
            exact ⟨fun _ => .inl rfl, fun _ => ⟨by omega, 0, rfl⟩⟩
          · rw [belowP_step (by omega) (by omega)]
            exact ⟨fun h => .inr h, fun h => by
              rcases h with h | h
              · exact absurd h e
              · exact h⟩
        · rintro ⟨h1, h2⟩
          obtain rfl := of_decide_eq_true h1
          rw [hkp.1] at h2
          cases h2
theorem depth_le {n : Nat} {i : Int} (hi : isNode f i = true) (hu : Up f n i) : 1 ≤ n ∧ n ≤ f.length := by
  have h1 := above_count h n hi hu
  have h2 := List.countP_le_length (p := fun k : Nat => belowB f k i) (l := List.range f.length)
  rw [List.length_range] at h2
  refine ⟨?_, by omega⟩
  cases n with
  | zero => have : i < 0 := hu; have := (node_iff f i).1 hi; omega
  | succ n => omega

/-! Contents, ids. -/
theorem content_eq {i : Int} (hi : isNode f i = true) : contentL f i = ownT f i ++ (at_ f i).kids.flatMap (contentL f) := by
  unfold contentL
  rw [order_eq h.fam h.climb hi, List.flatMap_cons, List.flatMap_assoc]
theorem content_text {i : Int} (hi : isNode f i = true) (hk : (at_ f i).kind = 2) : (at_ f i).kids = [] := by
  obtain ⟨x, rfl, hx⟩ := node_nat hi
  have := (h.node x hx).1
  unfold plainB at this
  rw [if_neg (by omega), if_neg (by omega), if_pos (.inl hk)] at this
  simp only [Bool.and_eq_true, decide_eq_true_eq] at this
  exact this.2
end
/-! Places. -/
theorem idxL_at {l : List Int} (hn : l.Nodup) {j : Nat} (hj : j < l.length) : idxL l l[j] = j := by
  unfold idxL
  have : l.findIdx? (fun y => y == l[j]) = some j := by
    rw [List.findIdx?_eq_some_iff_getElem]
    refine ⟨hj, by simp, fun k hk => ?_⟩
    intro he
    rw [beq_iff_eq] at he
    have := (List.getElem_inj hn).1 he
    omega
  rw [this]
theorem idxL_mem {l : List Int} {x : Int} (hx : x ∈ l) : ∃ j : Nat, ∃ hj : j < l.length, idxL l x = j ∧ l[j] = x := by
  unfold idxL
  cases hf : l.findIdx? (fun y => y == x) with
  | none =>
    rw [List.findIdx?_eq_none_iff] at hf
    have := hf x hx
    simp at this
  | some j =>
    rw [List.findIdx?_eq_some_iff_getElem] at hf
    obtain ⟨hj, h1, _⟩ := hf
    exact ⟨j, hj, rfl, by simpa using h1⟩
theorem beside_at {f : Fo} (h : IsMay f) {i p : Int} (hp : isNode f p = true) {j : Nat} (hj : j < (at_ f p).kids.length) (hi : (at_ f p).kids[j] = i) (d : Int) :
    besideE f i d = if -(j : Int) ≤ d ∧ d < (at_ f p).kids.length - (j : Int) then ((at_ f p).kids.getD ((j : Int) + d).toNat 0, 0) else (0, 3) := by
  obtain ⟨h1, h2⟩ := fam_kids h.fam hp (List.getElem_mem hj)
  rw [hi] at h1 h2
  have hx := idxL_at (kids_nodup h.fam hp) hj
  rw [hi] at hx
  have h0 := ((node_iff _ _).1 hp).1
  unfold besideE
  rw [if_neg (by rw [h1]; decide), h2, if_neg (by omega), hx]
  by_cases hc : -(j : Int) ≤ d ∧ d < (at_ f p).kids.length - (j : Int)
  · rw [if_pos hc, if_neg (by omega)]
  · rw [if_neg hc, if_pos (by omega)]
end Go.Proofs.YthdenkkllpkplaaGreat.FS
end
section
/- walk.has. -/
namespace Go.Proofs.YthdenkkllpkplaaGreat.Wk
open Go Go.RowKit Go.Proofs.YthdenkkllpkplaaGreat.Seq Go.Proofs.YthdenkkllpkplaaGreat.WS Go.Proofs.YthdenkkllpkplaaGreat.FS Go.Proofs.YthdenkkllpkplaaGreat.Mem Go.Proofs.YthdenkkllpkplaaGreat.Rd Go.Proofs.YthdenkkllpkplaaGreat.Shapes Go.Proofs.YthdenkkllpkplaaGreat.Word Go.Proofs.YthdenkkllpkplaaGreat.FFam
set_option linter.unusedVariables false
set_option linter.unusedSimpArgs false

theorem node_no {f : Fo} {i : Int} (h : isNode f i = false) : i < 0 ∨ (0 ≤ i ∧ (f.length : Int) ≤ i) := by
  have : ¬ (0 ≤ i ∧ i < f.length) := fun x => by rw [(node_iff f i).2 x] at h; cases h
  omega
theorem has_no (w : World) (A : Option Addr) (n c : Nat) (i : Int) (h : i < 0 ∨ (0 ≤ i ∧ (n : Int) ≤ i)) : Calls Tryz.prog 91 #[.slice A n c, .int .i64 i] w fun e w' => e = .returned (.int .i64 70) ∧ w = w' := by
  rcases h with h | ⟨h0, h⟩
  · go_enter Tryz.func91, Tryz.ntmps91
    go_wp2_with fail
    go_ret
    exact ⟨rfl, rfl⟩
  · have d0 : decide (i < 0) = false := by simp; omega
    go_enter Tryz.func91, Tryz.ntmps91
    go_wp2_with fail
    go_ret
    exact ⟨rfl, rfl⟩
theorem has_yes (w : World) (A : Option Addr) (n c : Nat) (k : Nat) (h : k < n) : Calls Tryz.prog 91 #[.slice A n c, .int .i64 k] w fun e w' => e = .returned (.int .i64 0) ∧ w = w' := by
  have d0 : decide ((k : Int) < 0) = false := by simp
  have d1 : ¬ ((n : Int) ≤ (k : Int)) := by omega
  go_enter Tryz.func91, Tryz.ntmps91
  go_wp2_with fail
  go_ret
  exact ⟨rfl, rfl⟩
theorem ret_ii {a b c d : Int} (h : a = c) (k : b = d) : Ending.returned (.tuple #[.int .i64 a, .int .i64 b]) = .returned (.tuple #[.int .i64 c, .int .i64 d]) := by rw [h, k]
theorem kids_len {f : Fo} (hm : mayB f = true) {i : Int} (hi : isNode f i = true) : (at_ f i).kids.length ≤ 60 := by
  obtain ⟨k, rfl, hk⟩ := node_nat hi
  rw [at_nat hk]
  exact Work.may_kids hm _ (List.getElem_mem _)
end Go.Proofs.YthdenkkllpkplaaGreat.Wk
end
