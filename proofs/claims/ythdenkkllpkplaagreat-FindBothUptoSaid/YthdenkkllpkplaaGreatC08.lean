/- Joined by a program: OwnF, AOwn, ALo, Work, ADoings, ASl. -/
import Derived.Maps.AppendAt
import Derived.Deep.QuietTactic
import Derived.BigQuiet
import Derived.Deep.Cut
import Derived.Maps.OwnOps
import Derived.Test.YthdenkkllpkplaaGreatC06
import Derived.Test.YthdenkkllpkplaaGreatC01
import Derived.Test.YthdenkkllpkplaaGreatC07
section
/- A forest that a call has made: a row of its own; what lies in its nodes lies elsewhere. -/
namespace Go.Proofs.YthdenkkllpkplaaGreat.OwnF
open Go Go.RowKit Go.Proofs.YthdenkkllpkplaaGreat.Seq Go.Proofs.YthdenkkllpkplaaGreat.WS Go.Proofs.YthdenkkllpkplaaGreat.FS Go.Proofs.YthdenkkllpkplaaGreat.Mem Go.Proofs.YthdenkkllpkplaaGreat.Rd Go.Proofs.YthdenkkllpkplaaGreat.Shapes Go.Proofs.YthdenkkllpkplaaGreat.FFam
set_option linter.unusedVariables false
set_option linter.unusedSimpArgs false

/-- v reads as l, in blocks of S. -/
def RdS {α : Type} (E : List Value → α → Prop) (sz : Nat) (S : Nat → Prop) (w : World) (v : Value) (l : List α) : Prop :=
  ∃ A c, v = .slice A l.length c ∧ l.length ≤ c ∧ c ≤ maxLen ∧ (0 < l.length → ∃ b o, A = some (⟨b, o, none⟩ : Addr) ∧ S b ∧ b < w.heap.size ∧
    ∀ i (h : i < l.length), ∃ cs : List Value, cs.length = sz ∧ (∀ j u, cs[j]? = some u → w.cell? ⟨b, o + i * sz + j, none⟩ = some u) ∧ E cs l[i])
def attrS (cs : List Value) (a : Av) : Prop := cs = [.string a.name, .string a.value] ∧ a.name.size ≤ maxLen ∧ a.value.size ≤ maxLen
def intS (cs : List Value) (z : Int) : Prop := cs = [.int .i64 z] ∧ (Lit.int .i64 z).wf = true
section
variable {α : Type} {E : List Value → α → Prop} {sz : Nat} {S S' : Nat → Prop} {w w' : World} {v : Value} {l : List α}
theorem RdS.nil : RdS E sz S w (.slice none 0 0) [] := ⟨none, 0, rfl, Nat.le_refl _, by simp [maxLen], fun h => absurd h (by simp)⟩
theorem cell_same {w w' : World} {g : Nat} (h : w'.heap[g]? = w.heap[g]?) (j : Nat) : w'.cell? ⟨g, j, none⟩ = w.cell? ⟨g, j, none⟩ := by simp [World.cell?, h]
theorem RdS.keep (h : RdS E sz S w v l) (hk : ∀ b, S b → b < w.heap.size → w'.heap[b]? = w.heap[b]?) (hs : w.heap.size ≤ w'.heap.size) (hS : ∀ b, S b → b < w.heap.size → S' b) : RdS E sz S' w' v l := by
  obtain ⟨A, c, hv, h1, h2, h3⟩ := h
  refine ⟨A, c, hv, h1, h2, fun h0 => ?_⟩
  obtain ⟨b, o, e, hb, hlt, hc⟩ := h3 h0
  refine ⟨b, o, e, hS b hb hlt, by omega, fun i hi => ?_⟩
  obtain ⟨cs, h4, h5, h6⟩ := hc i hi
  exact ⟨cs, h4, fun j u hj => (cell_same (hk b hb hlt) _).trans (h5 j u hj), h6⟩
theorem RdS.rd (h : RdS E sz S w v l) : RdL (fun _ _ => E) sz w.heap.size w v l := by
  obtain ⟨A, c, hv, h1, h2, h3⟩ := h
  refine ⟨A, c, hv, h1, h2, fun h0 => ?_⟩
  obtain ⟨b, o, e, hb, hlt, hc⟩ := h3 h0
  exact ⟨b, o, e, hlt, hc⟩
theorem RdS.of_rd {B : Nat} (h : RdL (fun _ _ => E) sz B w v l) (hB : B ≤ w.heap.size) : RdS E sz (fun b => b < B) w v l := by
  obtain ⟨A, c, hv, h1, h2, h3⟩ := h
  refine ⟨A, c, hv, h1, h2, fun h0 => ?_⟩
  obtain ⟨b, o, e, hlt, hc⟩ := h3 h0
  exact ⟨b, o, e, hlt, by omega, hc⟩
/-- A row of one's own. -/
theorem RdS.of_own {base : Nat} {e : TypeId} {n : Nat} {xs : List Value} (h : w.ownsRow base e sz v n xs) (hl : l.length = n) (hS : ∀ g, v.ownBlock = some g → S g) (hE : ∀ i (hi : i < l.length), E ((xs.drop (i * sz)).take sz) l[i]) : RdS E sz S w v l := by
  have hx := h.1
  have hlt := h.lt
  rcases h.2 with ⟨rfl, rfl⟩ | ⟨g, cap, cur, rfl, hb, hh, hc, hm, hcs, ht⟩
  · have : l = [] := List.eq_nil_of_length_eq_zero hl
    subst this
    exact RdS.nil
  · subst hl
    refine ⟨_, cap, rfl, hc, hm, fun h0 => ⟨_, _, rfl, hS g (by simp [Value.ownBlock]), (hlt g rfl).2, fun i hi => ⟨(xs.drop (i * sz)).take sz, ?_, fun j u hj => ?_, hE i hi⟩⟩⟩
    · rw [List.length_take, List.length_drop, hx]
      have : (i + 1) * sz ≤ l.length * sz := Nat.mul_le_mul_right _ hi
      rw [Nat.add_mul] at this
      omega
    · rw [List.getElem?_take] at hj
      split at hj
      · rw [List.getElem?_drop] at hj
        have := h.cells (g := g) rfl _ _ hj
        rw [Addr.add_lit] at this
        rw [Nat.add_assoc]
        exact this
      · cases hj
theorem RdS.form (h : RdS E sz S w v l) : ∃ A c, v = .slice A l.length c ∧ l.length ≤ c ∧ c ≤ maxLen := by obtain ⟨A, c, h1, h2, h3, _⟩ := h; exact ⟨A, c, h1, h2, h3⟩
end
/-- The cells of a node. -/
def nodeS (S : Nat → Prop) (w : World) (cs : List Value) (n : Nd) : Prop := ∃ va vk, cs = [.int .i64 n.kind, .string n.name, .string n.text, va, .int .i64 n.parent, vk] ∧ RdS attrS 2 S w va n.attrs ∧ RdS intS 1 S w vk n.kids ∧
  n.name.size ≤ maxLen ∧ n.text.size ≤ maxLen ∧ (Lit.int .i64 n.kind).wf = true ∧ (Lit.int .i64 n.parent).wf = true
theorem nodeS.keep {S S' : Nat → Prop} {w w' : World} {cs : List Value} {n : Nd} (h : nodeS S w cs n) (hk : ∀ b, S b → b < w.heap.size → w'.heap[b]? = w.heap[b]?) (hs : w.heap.size ≤ w'.heap.size) (hS : ∀ b, S b → b < w.heap.size → S' b) : nodeS S' w' cs n := by
  obtain ⟨va, vk, h1, h2, h3, h4⟩ := h
  exact ⟨va, vk, h1, h2.keep hk hs hS, h3.keep hk hs hS, h4⟩
theorem nodeS.len {S : Nat → Prop} {w : World} {cs : List Value} {n : Nd} (h : nodeS S w cs n) : cs.length = 6 := by obtain ⟨va, vk, rfl, _⟩ := h; rfl
theorem nodeS.one {S : Nat → Prop} {w : World} {cs : List Value} {n : Nd} (h : nodeS S w cs n) : ∀ u ∈ cs, u.oneCell' = true := by
  obtain ⟨va, vk, rfl, h2, h3, _⟩ := h
  obtain ⟨_, _, rfl, _⟩ := h2.form
  obtain ⟨_, _, rfl, _⟩ := h3.form
  intro u hu
  simp at hu
  rcases hu with rfl | rfl | rfl | rfl | rfl | rfl <;> rfl
theorem nodeS.rd {S : Nat → Prop} {w : World} {cs : List Value} {n : Nd} (h : nodeS S w cs n) : nodeE w.heap.size w cs n := by
  obtain ⟨va, vk, h1, h2, h3, h4⟩ := h
  exact ⟨va, vk, h1, h2.rd, h3.rd, h4⟩
theorem nodeS.of_rd {B : Nat} {w : World} {cs : List Value} {n : Nd} (h : nodeE B w cs n) (hB : B ≤ w.heap.size) : nodeS (fun b => b < B) w cs n := by
  obtain ⟨va, vk, h1, h2, h3, h4⟩ := h
  exact ⟨va, vk, h1, RdS.of_rd h2 hB, RdS.of_rd h3 hB, h4⟩
/-- v, a row of T's of the call's own, reads as f. -/
def OwnF (T : TypeId) (base : Nat) (w : World) (v : Value) (f : Fo) : Prop := ∃ xs, w.ownsRow base T 6 v f.length xs ∧ ∀ i (hi : i < f.length), nodeS (fun b => v.ownBlock ≠ some b) w ((xs.drop (i * 6)).take 6) f[i]
section
variable {T : TypeId} {base : Nat} {w w' : World} {v : Value} {f : Fo}
theorem OwnF.rd (h : OwnF T base w v f) : RdF w.heap.size w v f := by
  obtain ⟨xs, h1, h2⟩ := h
  exact RdL.of_own h1 rfl (fun g hg => (h1.lt g hg).2) (fun i hi => (h2 i hi).rd)
theorem OwnF.keep (h : OwnF T base w v f) (hk : ∀ b, b < w.heap.size → w'.heap[b]? = w.heap[b]?) (hs : w.heap.size ≤ w'.heap.size) : OwnF T base w' v f := by
  obtain ⟨xs, h1, h2⟩ := h
  exact ⟨xs, own_keep h1 (fun g hg => hk g (h1.lt g hg).2), fun i hi => (h2 i hi).keep (fun b _ hb => hk b hb) hs (fun _ x _ => x)⟩
theorem OwnF.below (h : OwnF T base w v f) (hb : Below w.heap.size w w') : OwnF T base w' v f := h.keep (fun b hl => hb.block b hl) hb.size
theorem OwnF.nil : OwnF T base w (.slice none 0 0) [] := ⟨[], World.ownsRow_nil _ _ _ _, fun i hi => absurd hi (by simp)⟩
/-- Behind an append. -/
theorem OwnF.more {v' : Value} {g : Fo} {xs news : List Value} (h1 : w.ownsRow base T 6 v f.length xs) (h2 : ∀ i (hi : i < f.length), nodeS (fun b => v.ownBlock ≠ some b) w ((xs.drop (i * 6)).take 6) f[i]) (hn : news.length = g.length * 6)
    (hg : ∀ i (hi : i < g.length), nodeS (fun b => v.ownBlock ≠ some b) w ((news.drop (i * 6)).take 6) g[i]) (ho : w'.ownsRow base T 6 v' (f.length + g.length) (xs ++ news)) (hgr : w.grownBy w' v.ownBlock) (hat : v'.ownBlock = v.ownBlock ∨ v'.ownBlock = some w.heap.size) : OwnF T base w' v' (f ++ g) := by
  have hx := h1.1
  have hk : ∀ b, v.ownBlock ≠ some b → b < w.heap.size → w'.heap[b]? = w.heap[b]? := fun b hb hlt => hgr.block b hlt (fun e => hb e.symm)
  have hS : ∀ b, v.ownBlock ≠ some b → b < w.heap.size → v'.ownBlock ≠ some b := fun b hb hlt => by
    rcases hat with e | e
    · rw [e]; exact hb
    · rw [e]; intro e2; injection e2 with e2; omega
  refine ⟨xs ++ news, by rw [List.length_append]; exact ho, fun i hi => ?_⟩
  by_cases hif : i < f.length
  · have : i * 6 + 6 ≤ xs.length := by omega
    rw [List.getElem_append_left hif, List.drop_append_of_le_length (by omega), List.take_append_of_le_length (by rw [List.length_drop]; omega)]
    exact (h2 i hif).keep hk hgr.size hS
  · have hi2 : i - f.length < g.length := by rw [List.length_append] at hi; omega
    rw [List.getElem_append_right (by omega), List.drop_append, List.drop_eq_nil_of_le (by omega), List.nil_append, show i * 6 - xs.length = (i - f.length) * 6 by omega]
    exact (hg _ hi2).keep hk hgr.size hS
theorem take_set_ne {xs : List Value} {i k j : Nat} {u : Value} (hk : k ≠ i) (hj : j < 6) : (((xs.set (i * 6 + j) u).drop (k * 6)).take 6) = ((xs.drop (k * 6)).take 6) := by
  apply List.ext_getElem?
  intro m
  rw [List.getElem?_take, List.getElem?_take]
  split
  · rw [List.getElem?_drop, List.getElem?_drop, List.getElem?_set_ne (by omega)]
  · rfl
theorem take_set_eq {xs : List Value} {i j : Nat} {u : Value} (hj : j < 6) : (((xs.set (i * 6 + j) u).drop (i * 6)).take 6) = ((xs.drop (i * 6)).take 6).set j u := by
  apply List.ext_getElem?
  intro m
  rw [List.getElem?_take, List.getElem?_set, List.length_take, List.length_drop, List.getElem?_take, List.getElem?_drop, List.getElem?_drop, List.getElem?_set]
  by_cases hm : m < 6
  · rw [if_pos hm, if_pos hm]
    by_cases e : j = m
    · subst e
      rw [if_pos rfl, if_pos rfl]
      by_cases hl : i * 6 + j < xs.length
      · rw [if_pos hl, if_pos (by omega)]
      · rw [if_neg hl, if_neg (by omega)]
    · rw [if_neg (by omega), if_neg e]
  · rw [if_neg hm, if_neg hm, if_neg (by omega)]
/-- A field is stored. -/
theorem OwnF.store {g c : Nat} (h : OwnF T base w (.slice (some ⟨g, 0, none⟩) f.length c) f) {i j : Nat} (hi : i < f.length) (hj : j < 6) {u : Value} {n : Nd}
    (hn : ∀ cs, nodeS (fun b => b ≠ g) w cs f[i] → nodeS (fun b => b ≠ g) w (cs.set j u) n) : OwnF T base (w.setCell ⟨g, i * 6 + j, none⟩ u) (.slice (some ⟨g, 0, none⟩) f.length c) (f.set i n) := by
  obtain ⟨xs, h1, h2⟩ := h
  have hS : (fun b => (Value.slice (some ⟨g, 0, none⟩) f.length c).ownBlock ≠ some b) = (fun b => b ≠ g) := by
    funext b
    simp only [Value.ownBlock, eq_iff_iff]
    constructor
    · intro h e; exact h (by rw [e])
    · intro h e; injection e with e; exact h e.symm
  have hk : ∀ b, b ≠ g → b < w.heap.size → (w.setCell ⟨g, i * 6 + j, none⟩ u).heap[b]? = w.heap[b]? := fun b hb _ => Below.heap_setCell _ _ _ _ hb
  have hsz : w.heap.size ≤ (w.setCell ⟨g, i * 6 + j, none⟩ u).heap.size := by simp [World.setCell]
  refine ⟨xs.set (i * 6 + j) u, by rw [List.length_set]; exact (h1.stored (i * 6 + j) u).1, fun k hk' => ?_⟩
  rw [List.length_set] at hk'
  rw [hS] at h2 ⊢
  by_cases e : i = k
  · subst e
    rw [List.getElem_set_self, take_set_eq hj]
    exact (hn _ (h2 i hk')).keep hk hsz (fun _ x _ => x)
  · rw [List.getElem_set_ne e, take_set_ne (fun h => e h.symm) hj]
    exact (h2 k hk').keep hk hsz (fun _ x _ => x)
/-- What a field holds. -/
theorem OwnF.form (h : OwnF T base w v f) (h0 : 0 < f.length) : ∃ g c, v = .slice (some ⟨g, 0, none⟩) f.length c ∧ base ≤ g ∧ g < w.heap.size ∧ (∀ o, w.frozen? ⟨g, o, none⟩ = false) ∧ f.length ≤ c ∧ c ≤ maxLen := by
  obtain ⟨xs, h1, h2⟩ := h
  have hlt := h1.lt
  rcases h1.2 with ⟨_, hn⟩ | ⟨g, cap, cur, rfl, hb, hh, hc, hm, _⟩
  · omega
  · exact ⟨g, cap, rfl, hb, (hlt g rfl).2, fun o => free_of hh o, hc, hm⟩
theorem OwnF.ne_block {g c : Nat} (h : OwnF T base w (.slice (some ⟨g, 0, none⟩) f.length c) f) {i : Nat} (hi : i < f.length) : ∃ cs va vk, cs = [.int .i64 f[i].kind, .string f[i].name, .string f[i].text, va, .int .i64 f[i].parent, vk] ∧ (∀ j u, cs[j]? = some u → w.cell? ⟨g, i * 6 + j, none⟩ = some u) ∧ RdS attrS 2 (fun b => b ≠ g) w va f[i].attrs ∧ RdS intS 1 (fun b => b ≠ g) w vk f[i].kids := by
  obtain ⟨xs, h1, h2⟩ := h
  obtain ⟨va, vk, e, r1, r2, _⟩ := h2 i hi
  have hne : ∀ b, (Value.slice (some ⟨g, 0, none⟩) f.length c).ownBlock ≠ some b → b < w.heap.size → b ≠ g := fun b hb _ e => hb (by rw [e]; rfl)
  refine ⟨_, va, vk, e, fun j u hj => ?_, r1.keep (fun _ _ _ => rfl) (Nat.le_refl _) hne, r2.keep (fun _ _ _ => rfl) (Nat.le_refl _) hne⟩
  rw [List.getElem?_take] at hj
  split at hj
  · rw [List.getElem?_drop] at hj
    have := h1.cells (g := g) rfl _ _ hj
    rwa [Addr.add_lit, Nat.zero_add] at this
  · cases hj
end
/-- The cells of a forest that is read. -/
theorem rd_cells {B : Nat} {w : World} {A : Option Addr} {n c : Nat} {f : Fo} (h : RdF B w (.slice A n c) f) (hB : B ≤ w.heap.size) (h0 : 0 < f.length) :
    ∃ (b o : Nat) (xs : List Value), A = some ⟨b, o, none⟩ ∧ b < B ∧ xs.length = f.length * 6 ∧ (∀ j u, xs[j]? = some u → w.cell? ⟨b, o + j, none⟩ = some u) ∧ ∀ i (hi : i < f.length), nodeS (fun b => b < B) w ((xs.drop (i * 6)).take 6) f[i] := by
  obtain ⟨b, o, cs0, hA, hlt, _, _, _⟩ := h.at_ (i := 0) h0
  have key : ∀ k, k ≤ f.length → ∃ xs : List Value, xs.length = k * 6 ∧ (∀ j u, xs[j]? = some u → w.cell? ⟨b, o + j, none⟩ = some u) ∧ ∀ i (hi : i < f.length), i < k → nodeS (fun b => b < B) w ((xs.drop (i * 6)).take 6) f[i] := by
    intro k
    induction k with
    | zero => exact fun _ => ⟨[], rfl, fun j u hj => by simp at hj, fun i hi h => absurd h (Nat.not_lt_zero _)⟩
    | succ k ih =>
      intro hk
      obtain ⟨xs, h1, h2, h3⟩ := ih (by omega)
      obtain ⟨b', o', cs, hA', _, hl, hc, hE⟩ := h.at_ (i := k) (by omega)
      rw [hA] at hA'
      injection hA' with hA'
      injection hA' with e1 e2 _
      subst e1 e2
      refine ⟨xs ++ cs, by rw [List.length_append]; omega, fun j u hj => ?_, fun i hi hik => ?_⟩
      · by_cases hjl : j < xs.length
        · rw [List.getElem?_append_left hjl] at hj
          exact h2 j u hj
        · rw [List.getElem?_append_right (by omega)] at hj
          have := hc _ u hj
          rwa [show o + k * 6 + (j - xs.length) = o + j by omega] at this
      · by_cases e : i < k
        · rw [List.drop_append_of_le_length (by omega), List.take_append_of_le_length (by rw [List.length_drop]; omega)]
          exact h3 i hi e
        · have : i = k := by omega
          subst this
          rw [List.drop_append, List.drop_eq_nil_of_le (by omega), List.nil_append, show i * 6 - xs.length = 0 by omega, List.drop_zero, List.take_of_length_le (by omega)]
          exact nodeS.of_rd hE hB
  obtain ⟨xs, h1, h2, h3⟩ := key f.length (Nat.le_refl _)
  exact ⟨b, o, xs, hA, hlt, h1, h2, fun i hi => h3 i hi hi⟩
end Go.Proofs.YthdenkkllpkplaaGreat.OwnF
end
section
/- As OwnF; besides, what lies in the nodes lies in blocks of X. -/
namespace Go.Proofs.YthdenkkllpkplaaGreat.OwnF
open Go Go.RowKit Go.Proofs.YthdenkkllpkplaaGreat.Seq Go.Proofs.YthdenkkllpkplaaGreat.WS Go.Proofs.YthdenkkllpkplaaGreat.FS Go.Proofs.YthdenkkllpkplaaGreat.Mem Go.Proofs.YthdenkkllpkplaaGreat.Rd Go.Proofs.YthdenkkllpkplaaGreat.Shapes Go.Proofs.YthdenkkllpkplaaGreat.FFam
set_option linter.unusedVariables false
set_option linter.unusedSimpArgs false

def OwnX (X : Nat → Prop) (T : TypeId) (base : Nat) (w : World) (v : Value) (f : Fo) : Prop := ∃ xs, w.ownsRow base T 6 v f.length xs ∧ ∀ i (hi : i < f.length), nodeS (fun b => v.ownBlock ≠ some b ∧ X b) w ((xs.drop (i * 6)).take 6) f[i]
section
variable {X : Nat → Prop} {T : TypeId} {base : Nat} {w w' : World} {v : Value} {f : Fo}
theorem nodeS.weak {S S' : Nat → Prop} {cs : List Value} {n : Nd} (h : nodeS S w cs n) (hS : ∀ b, S b → b < w.heap.size → S' b) : nodeS S' w cs n := h.keep (fun _ _ _ => rfl) (Nat.le_refl _) hS
theorem OwnX.own (h : OwnX X T base w v f) : OwnF T base w v f := by
  obtain ⟨xs, h1, h2⟩ := h
  exact ⟨xs, h1, fun i hi => (h2 i hi).weak (fun b hb _ => hb.1)⟩
theorem OwnX.of_own (h : OwnF T base w v f) (hX : ∀ b, b < w.heap.size → X b) : OwnX X T base w v f := by
  obtain ⟨xs, h1, h2⟩ := h
  exact ⟨xs, h1, fun i hi => (h2 i hi).weak (fun b hb hl => ⟨hb, hX b hl⟩)⟩
/-- What keeps the row and the blocks of X keeps it. -/
theorem OwnX.keep (h : OwnX X T base w v f) (hk : ∀ b, b < w.heap.size → (X b ∨ v.ownBlock = some b) → w'.heap[b]? = w.heap[b]?) (hs : w.heap.size ≤ w'.heap.size) : OwnX X T base w' v f := by
  obtain ⟨xs, h1, h2⟩ := h
  exact ⟨xs, own_keep h1 (fun g hg => hk g (h1.lt g hg).2 (.inr hg)), fun i hi => (h2 i hi).keep (fun b hb hl => hk b hl (.inl hb.2)) hs (fun _ x _ => x)⟩
theorem OwnX.below (h : OwnX X T base w v f) (hb : Below w.heap.size w w') : OwnX X T base w' v f := h.keep (fun b hl _ => hb.block b hl) hb.size
theorem OwnX.more {v' : Value} {g : Fo} {xs news : List Value} (h1 : w.ownsRow base T 6 v f.length xs) (h2 : ∀ i (hi : i < f.length), nodeS (fun b => v.ownBlock ≠ some b ∧ X b) w ((xs.drop (i * 6)).take 6) f[i]) (hn : news.length = g.length * 6)
    (hg : ∀ i (hi : i < g.length), nodeS (fun b => v.ownBlock ≠ some b ∧ X b) w ((news.drop (i * 6)).take 6) g[i]) (ho : w'.ownsRow base T 6 v' (f.length + g.length) (xs ++ news)) (hgr : w.grownBy w' v.ownBlock) (hat : v'.ownBlock = v.ownBlock ∨ v'.ownBlock = some w.heap.size) : OwnX X T base w' v' (f ++ g) := by
  have hx := h1.1
  have hk : ∀ b, (v.ownBlock ≠ some b ∧ X b) → b < w.heap.size → w'.heap[b]? = w.heap[b]? := fun b hb hlt => hgr.block b hlt (fun e => hb.1 e.symm)
  have hS : ∀ b, (v.ownBlock ≠ some b ∧ X b) → b < w.heap.size → (v'.ownBlock ≠ some b ∧ X b) := fun b hb hlt => by
    refine ⟨?_, hb.2⟩
    rcases hat with e | e
    · rw [e]; exact hb.1
    · rw [e]; intro e2; injection e2 with e2; omega
  refine ⟨xs ++ news, by rw [List.length_append]; exact ho, fun i hi => ?_⟩
  by_cases hif : i < f.length
  · have : i * 6 + 6 ≤ xs.length := by omega
    rw [List.getElem_append_left hif, List.drop_append_of_le_length (by omega), List.take_append_of_le_length (by rw [List.length_drop]; omega)]
    exact (h2 i hif).keep hk hgr.size hS
  · have hi2 : i - f.length < g.length := by rw [List.length_append] at hi; omega
    rw [List.getElem_append_right (by omega), List.drop_append, List.drop_eq_nil_of_le (by omega), List.nil_append, show i * 6 - xs.length = (i - f.length) * 6 by omega]
    exact (hg _ hi2).keep hk hgr.size hS
theorem OwnX.store {g c : Nat} (h : OwnX X T base w (.slice (some ⟨g, 0, none⟩) f.length c) f) {i j : Nat} (hi : i < f.length) (hj : j < 6) {u : Value} {n : Nd}
    (hn : ∀ cs, nodeS (fun b => b ≠ g ∧ X b) w cs f[i] → nodeS (fun b => b ≠ g ∧ X b) w (cs.set j u) n) : OwnX X T base (w.setCell ⟨g, i * 6 + j, none⟩ u) (.slice (some ⟨g, 0, none⟩) f.length c) (f.set i n) := by
  obtain ⟨xs, h1, h2⟩ := h
  have hS : (fun b => (Value.slice (some ⟨g, 0, none⟩) f.length c).ownBlock ≠ some b ∧ X b) = (fun b => b ≠ g ∧ X b) := by
    funext b
    simp only [Value.ownBlock, eq_iff_iff]
    constructor
    · intro h; exact ⟨fun e => h.1 (by rw [e]), h.2⟩
    · intro h; exact ⟨fun e => by injection e with e; exact h.1 e.symm, h.2⟩
  have hk : ∀ b, (b ≠ g ∧ X b) → b < w.heap.size → (w.setCell ⟨g, i * 6 + j, none⟩ u).heap[b]? = w.heap[b]? := fun b hb _ => Below.heap_setCell _ _ _ _ hb.1
  have hsz : w.heap.size ≤ (w.setCell ⟨g, i * 6 + j, none⟩ u).heap.size := by simp [World.setCell]
  refine ⟨xs.set (i * 6 + j) u, by rw [List.length_set]; exact (h1.stored (i * 6 + j) u).1, fun k hk' => ?_⟩
  rw [List.length_set] at hk'
  rw [hS] at h2 ⊢
  by_cases e : i = k
  · subst e
    rw [List.getElem_set_self, take_set_eq hj]
    exact (hn _ (h2 i hk')).keep hk hsz (fun _ x _ => x)
  · rw [List.getElem_set_ne e, take_set_ne (fun h => e h.symm) hj]
    exact (h2 k hk').keep hk hsz (fun _ x _ => x)
end
end Go.Proofs.YthdenkkllpkplaaGreat.OwnF
end
section
/- A forest that is read from blocks that are not below L. -/
namespace Go.Proofs.YthdenkkllpkplaaGreat.OwnF
open Go Go.RowKit Go.Proofs.YthdenkkllpkplaaGreat.Seq Go.Proofs.YthdenkkllpkplaaGreat.WS Go.Proofs.YthdenkkllpkplaaGreat.FS Go.Proofs.YthdenkkllpkplaaGreat.Mem Go.Proofs.YthdenkkllpkplaaGreat.Rd Go.Proofs.YthdenkkllpkplaaGreat.Shapes Go.Proofs.YthdenkkllpkplaaGreat.FFam
set_option linter.unusedVariables false
set_option linter.unusedSimpArgs false
def loE (L : Nat) : Elem Nd := fun _ w cs n => nodeS (fun b => L ≤ b) w cs n
def LoF (L : Nat) (w : World) (v : Value) (f : Fo) : Prop := RdL (loE L) 6 w.heap.size w v f ∧ ∀ b o n c, v = .slice (some (⟨b, o, none⟩ : Addr)) n c → L ≤ b
section
variable {L : Nat} {w w' : World} {v : Value} {f : Fo}
theorem LoF.rd (h : LoF L w v f) : RdF w.heap.size w v f := by
  obtain ⟨A, c, hv, h1, h2, h3⟩ := h.1
  refine ⟨A, c, hv, h1, h2, fun h0 => ?_⟩
  obtain ⟨b, o, e, hb, hc⟩ := h3 h0
  refine ⟨b, o, e, hb, fun i hi => ?_⟩
  obtain ⟨cs, h4, h5, h6⟩ := hc i hi
  exact ⟨cs, h4, h5, nodeS.rd h6⟩
theorem LoF.of_rd (h : RdF w.heap.size w v f) : LoF 0 w v f := by
  refine ⟨?_, fun _ _ _ _ _ => Nat.zero_le _⟩
  obtain ⟨A, c, hv, h1, h2, h3⟩ := h
  refine ⟨A, c, hv, h1, h2, fun h0 => ?_⟩
  obtain ⟨b, o, e, hb, hc⟩ := h3 h0
  refine ⟨b, o, e, hb, fun i hi => ?_⟩
  obtain ⟨cs, h4, h5, h6⟩ := hc i hi
  exact ⟨cs, h4, h5, (nodeS.of_rd h6 (Nat.le_refl _)).weak (fun b _ _ => Nat.zero_le b)⟩
theorem LoF.keep (h : LoF L w v f) (hk : ∀ b, L ≤ b → b < w.heap.size → w'.heap[b]? = w.heap[b]?) (hs : w.heap.size ≤ w'.heap.size) : LoF L w' v f := by
  refine ⟨?_, h.2⟩
  obtain ⟨⟨A, c, hv, h1, h2, h3⟩, hL⟩ := h
  refine ⟨A, c, hv, h1, h2, fun h0 => ?_⟩
  obtain ⟨b, o, e, hb, hc⟩ := h3 h0
  subst e
  refine ⟨b, o, rfl, by omega, fun i hi => ?_⟩
  obtain ⟨cs, h4, h5, h6⟩ := hc i hi
  exact ⟨cs, h4, fun j u hj => (cell_same (hk b (hL _ _ _ _ hv) hb) _).trans (h5 j u hj), nodeS.keep h6 hk hs (fun _ x _ => x)⟩
theorem LoF.below (h : LoF L w v f) (hb : Below w.heap.size w w') : LoF L w' v f := h.keep (fun b _ hl => hb.block b hl) hb.size
theorem LoF.of_ownx {X : Nat → Prop} {T : TypeId} {base : Nat} (h : OwnX X T base w v f) (hX : ∀ b, X b → L ≤ b) (hL : L ≤ base) : LoF L w v f := by
  obtain ⟨xs, h1, h2⟩ := h
  refine ⟨RdL.of_own h1 rfl (fun g hg => (h1.lt g hg).2) (fun i hi => (h2 i hi).weak (fun b hb _ => hX b hb.2)), fun b o n c e => ?_⟩
  subst e
  have := (h1.lt b rfl).1
  omega
theorem OwnX.both {X Y : Nat → Prop} {T : TypeId} {base : Nat} (h : OwnX X T base w v f) (hY : ∀ b, b < w.heap.size → Y b) : OwnX (fun b => Y b ∧ X b) T base w v f := by
  obtain ⟨xs, h1, h2⟩ := h
  exact ⟨xs, h1, fun i hi => (h2 i hi).weak (fun b hb hl => ⟨hb.1, hY b hl, hb.2⟩)⟩
/-- The cells of a forest that is read so. -/
theorem lo_cells {A : Option Addr} {n c : Nat} (h : LoF L w (.slice A n c) f) (h0 : 0 < f.length) :
    ∃ (b o : Nat) (xs : List Value), A = some ⟨b, o, none⟩ ∧ b < w.heap.size ∧ xs.length = f.length * 6 ∧ (∀ j u, xs[j]? = some u → w.cell? ⟨b, o + j, none⟩ = some u) ∧ ∀ i (hi : i < f.length), nodeS (fun b => L ≤ b) w ((xs.drop (i * 6)).take 6) f[i] := by
  replace h := h.1
  obtain ⟨b, o, cs0, hA, hlt, _, _, _⟩ := h.at_ (i := 0) h0
  have key : ∀ k, k ≤ f.length → ∃ xs : List Value, xs.length = k * 6 ∧ (∀ j u, xs[j]? = some u → w.cell? ⟨b, o + j, none⟩ = some u) ∧ ∀ i (hi : i < f.length), i < k → nodeS (fun b => L ≤ b) w ((xs.drop (i * 6)).take 6) f[i] := by
    intro k
    induction k with
    | zero => exact fun _ => ⟨[], rfl, fun j u hj => by simp at hj, fun i hi h => absurd h (Nat.not_lt_zero _)⟩
    | succ k ih =>
      intro hk
      obtain ⟨xs, h1, h2, h3⟩ := ih (by omega)
      obtain ⟨b', o', cs, hA', _, hl, hc, hE⟩ := h.at_ (i := k) (by omega)
      rw [hA] at hA'
      injection hA' with hA'
      injection hA' with e1 e2 _
      subst e1 e2
      refine ⟨xs ++ cs, by rw [List.length_append]; omega, fun j u hj => ?_, fun i hi hik => ?_⟩
      · by_cases hjl : j < xs.length
        · rw [List.getElem?_append_left hjl] at hj
          exact h2 j u hj
        · rw [List.getElem?_append_right (by omega)] at hj
          have := hc _ u hj
          rwa [show o + k * 6 + (j - xs.length) = o + j by omega] at this
      · by_cases e : i < k
        · rw [List.drop_append_of_le_length (by omega), List.take_append_of_le_length (by rw [List.length_drop]; omega)]
          exact h3 i hi e
        · have : i = k := by omega
          subst this
          rw [List.drop_append, List.drop_eq_nil_of_le (by omega), List.nil_append, show i * 6 - xs.length = 0 by omega, List.drop_zero, List.take_of_length_le (by omega)]
          exact hE
  obtain ⟨xs, h1, h2, h3⟩ := key f.length (Nat.le_refl _)
  exact ⟨b, o, xs, hA, hlt, h1, h2, fun i hi => h3 i hi hi⟩
end
end Go.Proofs.YthdenkkllpkplaaGreat.OwnF
end
section
/- apply's work: what it is in memory; the small checks. -/
namespace Go.Proofs.YthdenkkllpkplaaGreat.Work
open Go Go.RowKit Go.Proofs.YthdenkkllpkplaaGreat.Seq Go.Proofs.YthdenkkllpkplaaGreat.WS Go.Proofs.YthdenkkllpkplaaGreat.FS Go.Proofs.YthdenkkllpkplaaGreat.Mem Go.Proofs.YthdenkkllpkplaaGreat.Rd Go.Proofs.YthdenkkllpkplaaGreat.Shapes Go.Proofs.YthdenkkllpkplaaGreat.Word Go.Proofs.YthdenkkllpkplaaGreat.FFam Go.Proofs.YthdenkkllpkplaaGreat.OwnF
set_option linter.unusedVariables false
set_option linter.unusedSimpArgs false

abbrev workRow (vf : Value) (o : Opn) : Array Value := #[vf, .int .i64 o.kind, .int .i64 o.id, .int .i64 o.to, .int .i64 o.at_, .string o.name, .string o.text]
/-- Below which block nothing lies of the forests worked on (0: it may lie anywhere). -/
class Avoid where
  lo : Nat
instance (priority := low) avoid0 : Avoid := ⟨0⟩
section
variable [Avoid]
/-- Block wk is a work on f: the row g is the work's own. -/
structure Wk (base wk g c : Nat) (o : Opn) (f : Fo) (w : World) : Prop where
  box : w.heap[wk]? = some (.cells (workRow (.slice (some ⟨g, 0, none⟩) f.length c) o) 110 (0, 0))
  ownx : OwnX (fun b => b ≠ wk ∧ Avoid.lo ≤ b) 55 base w (.slice (some ⟨g, 0, none⟩) f.length c) f
  ne : g ≠ wk
  big : f.length ≤ c ∧ c ≤ 9223372036854775807
  lo : Avoid.lo ≤ base
end
theorem drewN_below {B : Nat} {a w : World} (h : Below B a w) (n : Nat) : Below B a (w.drewN n) := ⟨h.os, h.tape, h.output, h.size, h.block⟩
section
variable [Avoid] {base wk g c : Nat} {o : Opn} {f : Fo} {w w' : World}
theorem Wk.own (h : Wk base wk g c o f w) : OwnF 55 base w (.slice (some ⟨g, 0, none⟩) f.length c) f := h.ownx.own
theorem Wk.below (h : Wk base wk g c o f w) (hb : Below w.heap.size w w') : Wk base wk g c o f w' := ⟨(hb.block wk (lt_heap h.box)).trans h.box, h.ownx.below hb, h.ne, h.big, h.lo⟩
theorem Wk.cells (h : Wk base wk g c o f w) : w.cell? ⟨wk, 0, none⟩ = some (.slice (some ⟨g, 0, none⟩) f.length c) ∧ w.cell? ⟨wk, 1, none⟩ = some (.int .i64 o.kind) ∧ w.cell? ⟨wk, 2, none⟩ = some (.int .i64 o.id) ∧ w.cell? ⟨wk, 3, none⟩ = some (.int .i64 o.to) ∧
    w.cell? ⟨wk, 4, none⟩ = some (.int .i64 o.at_) ∧ w.cell? ⟨wk, 5, none⟩ = some (.string o.name) ∧ w.cell? ⟨wk, 6, none⟩ = some (.string o.text) :=
  ⟨(cell_of_row _ _ _ _ _ _ h.box).trans rfl, (cell_of_row _ _ _ _ _ _ h.box).trans rfl, (cell_of_row _ _ _ _ _ _ h.box).trans rfl, (cell_of_row _ _ _ _ _ _ h.box).trans rfl, (cell_of_row _ _ _ _ _ _ h.box).trans rfl, (cell_of_row _ _ _ _ _ _ h.box).trans rfl, (cell_of_row _ _ _ _ _ _ h.box).trans rfl⟩
end
/-- What a check answers. -/
def ChkPost (b : Bool) (w : World) (e : Ending) (w' : World) : Prop := e = .returned (.bool b) ∧ Below w.heap.size w w'
def Chk [Avoid] (K : FuncId) (base wk g c : Nat) (o : Opn) (f : Fo) (b : Bool) : Prop := ∀ w, Wk base wk g c o f w → Calls Tryz.prog K #[.pointer (some ⟨wk, 0, none⟩)] w (ChkPost b w)
section
variable [Avoid] {base wk g c : Nat} {o : Opn} {f : Fo}
theorem room_chk : Chk 102 base wk g c o f (roomB f) := by
  intro w h
  obtain ⟨c0, c1, c2, c3, c4, c5, c6⟩ := h.cells
  have hl := h.big
  clear h
  go_enter Tryz.func102, Tryz.ntmps102
  go_wp2
  go_ret
  refine ⟨ret_bool ?_, Below.refl _ _⟩
  unfold roomB
  rw [Bool.eq_iff_iff]; simp; try omega
theorem named_chk : Chk 101 base wk g c o f (namedB o) := by
  intro w h
  obtain ⟨c0, c1, c2, c3, c4, c5, c6⟩ := h.cells
  have hN : ∀ w, Calls Tryz.prog 138 #[.string o.name] w fun e w' => e = .returned (.bool (nameB o.name.data.toList)) ∧ w = w' := fun w => Name_calls _ w
  have hT : ∀ w, Calls Tryz.prog 137 #[.string o.text] w fun e w' => e = .returned (.bool (textB o.text.data.toList)) ∧ w = w' := fun w => Text_calls _ w
  unfold namedB
  generalize nameB o.name.data.toList = bn at *
  generalize textB o.text.data.toList = bt at *
  have HN := Lib.hid hN; have HT := Lib.hid hT
  clear h hN hT
  cases bn with
  | false =>
    go_enter Tryz.func101, Tryz.ntmps101
    go_wp2_with (go_at_call 138; (with_reducible refine (HN.out _).mono ?_); rintro e w5 ⟨rfl, rfl⟩)
    go_ret
    exact ⟨rfl, Below.refl _ _⟩
  | true =>
    go_enter Tryz.func101, Tryz.ntmps101
    go_wp2_with (first | (go_at_call 138; (with_reducible refine (HN.out _).mono ?_); rintro e w5 ⟨rfl, rfl⟩) | (go_at_call 137; (with_reducible refine (HT.out _).mono ?_); rintro e w5 ⟨rfl, rfl⟩))
    go_ret
    exact ⟨by simp, Below.refl _ _⟩
theorem texted_chk : Chk 105 base wk g c o f (textedB o) := by
  intro w h
  obtain ⟨c0, c1, c2, c3, c4, c5, c6⟩ := h.cells
  have hT : ∀ w, Calls Tryz.prog 137 #[.string o.text] w fun e w' => e = .returned (.bool (textB o.text.data.toList)) ∧ w = w' := fun w => Text_calls _ w
  have HT := Lib.hid hT
  clear h hT
  go_enter Tryz.func105, Tryz.ntmps105
  go_wp2_with (go_at_call 137; (with_reducible refine (HT.out _).mono ?_); rintro e w5 ⟨rfl, rfl⟩)
  go_ret
  exact ⟨rfl, Below.refl _ _⟩
theorem zero_chk : Chk 117 base wk g c o f (o.id != 0) := by
  intro w h
  obtain ⟨c0, c1, c2, c3, c4, c5, c6⟩ := h.cells
  clear h
  go_enter Tryz.func117, Tryz.ntmps117
  go_wp2
  go_ret
  exact ⟨rfl, Below.refl _ _⟩
theorem known_chk : Chk 100 base wk g c o f (knownB f o) := by
  intro w h
  obtain ⟨c0, c1, c2, c3, c4, c5, c6⟩ := h.cells
  have hl := h.big
  unfold knownB
  clear h
  by_cases h0 : 0 ≤ o.id
  · have e1 : isNode f o.id = decide (o.id < f.length) := by unfold isNode; rw [decide_eq_true h0, Bool.true_and]
    rw [e1]
    go_enter Tryz.func100, Tryz.ntmps100
    go_wp2_with fail
    go_quiet (fail)
    go_wp2_with fail
    go_ret
    exact ⟨rfl, drewN_below (Below.refl _ _) _⟩
  · have e1 : isNode f o.id = false := by unfold isNode; rw [decide_eq_false h0, Bool.false_and]
    have hd : decide (0 ≤ o.id) = false := decide_eq_false h0
    rw [e1]
    go_enter Tryz.func100, Tryz.ntmps100
    go_wp2_with fail
    go_quiet (fail)
    go_wp2_with fail
    go_ret
    exact ⟨rfl, drewN_below (Below.refl _ _) _⟩
theorem to_chk : Chk 108 base wk g c o f (isNode f o.to) := by
  intro w h
  obtain ⟨c0, c1, c2, c3, c4, c5, c6⟩ := h.cells
  have hl := h.big
  clear h
  by_cases h0 : 0 ≤ o.to
  · have e1 : isNode f o.to = decide (o.to < f.length) := by unfold isNode; rw [decide_eq_true h0, Bool.true_and]
    rw [e1]
    go_enter Tryz.func108, Tryz.ntmps108
    go_wp2_with fail
    go_quiet (fail)
    go_wp2_with fail
    go_ret
    exact ⟨rfl, drewN_below (Below.refl _ _) _⟩
  · have e1 : isNode f o.to = false := by unfold isNode; rw [decide_eq_false h0, Bool.false_and]
    have hd : decide (0 ≤ o.to) = false := decide_eq_false h0
    rw [e1]
    go_enter Tryz.func108, Tryz.ntmps108
    go_wp2_with fail
    go_quiet (fail)
    go_wp2_with fail
    go_ret
    exact ⟨rfl, drewN_below (Below.refl _ _) _⟩
/-- The node of the operation: a pointer into the row. -/
def NodePost (g : Nat) (i : Int) (w : World) (e : Ending) (w' : World) : Prop := e = .returned (.pointer (some ⟨g, i.toNat * 6, none⟩)) ∧ ∃ n, w' = w.drewN n
theorem node_calls (w : World) (h : Wk base wk g c o f w) (hi : isNode f o.id = true) : Calls Tryz.prog 114 #[.pointer (some ⟨wk, 0, none⟩)] w (NodePost g o.id w) := by
  obtain ⟨c0, c1, c2, c3, c4, c5, c6⟩ := h.cells
  have hl := h.big
  obtain ⟨k, hk, hkl⟩ := node_nat hi
  rw [hk] at c2 ⊢
  have hkn : (k : Int) < f.length := by omega
  clear h hi hk
  go_enter Tryz.func114, Tryz.ntmps114
  go_wp2_with fail
  go_quiet (fail)
  go_wp2_with fail
  go_ret
  exact ⟨by simp, _, rfl⟩
end
end Go.Proofs.YthdenkkllpkplaaGreat.Work
end
section
/- apply.doings: a map of eight doings; apply.first. -/
namespace Go.Proofs.YthdenkkllpkplaaGreat.Doings
open Go Go.RowKit Go.Proofs.YthdenkkllpkplaaGreat.Seq Go.Proofs.YthdenkkllpkplaaGreat.WS Go.Proofs.YthdenkkllpkplaaGreat.FS Go.Proofs.YthdenkkllpkplaaGreat.Mem Go.Proofs.YthdenkkllpkplaaGreat.Rd
set_option linter.unusedVariables false
set_option linter.unusedSimpArgs false

def mkV (x : Int × Value × Nat) : MapEntry := { key := .int .i64 x.1, val := x.2.1, born := x.2.2 }
def ixV (k : Int) : List (Int × Value × Nat) → Nat → Option (Nat × Value)
  | [], _ => none
  | x :: es, i => if k = x.1 then some (i, x.2.1) else ixV k es (i + 1)
theorem findNow_mkV {d : TypeDesc} (hd : ∀ a b, Instr.sameNow d (.int .i64 a) (.int .i64 b) = some (decide (a = b))) (k : Int) : ∀ (es : List (Int × Value × Nat)) (i : Nat), Instr.findNow d (.int .i64 k) (es.map mkV) i = some (ixV k es i)
  | [], i => rfl
  | x :: es, i => by
    rw [List.map_cons, Instr.findNow]
    have : Instr.sameNow d (.int .i64 k) (mkV x).key = some (decide (k = x.1)) := hd _ _
    rw [this]
    by_cases h : k = x.1
    · rw [decide_eq_true h]; simp only [ixV, if_pos h]; rfl
    · rw [decide_eq_false h]; simp only [ixV, if_neg h]; exact findNow_mkV hd k es (i + 1)
theorem ixV_none {k : Int} : ∀ {es : List (Int × Value × Nat)} {i : Nat}, (∀ x ∈ es, x.1 ≠ k) → ixV k es i = none
  | [], i, _ => rfl
  | x :: es, i, h => by
    unfold ixV
    rw [if_neg (fun e => h x (by simp) e.symm)]
    exact ixV_none (fun y hy => h y (by simp [hy]))
theorem ixV_some {k : Int} {v : Value} : ∀ {es : List (Int × Value × Nat)} {i : Nat}, (es.find? (fun x => decide (k = x.1))).map (·.2.1) = some v → ∃ j, ixV k es i = some (j, v)
  | [], i, h => by cases h
  | x :: es, i, h => by
    unfold ixV
    by_cases hk : k = x.1
    · rw [if_pos hk]
      simp [hk] at h
      exact ⟨i, by rw [h]⟩
    · rw [if_neg hk]
      rw [List.find?_cons, decide_eq_false hk] at h
      exact ixV_some h
section
variable {P : Program} {W : World} {b c : Nat} {es : List (Int × Value × Nat)} {T kt et : TypeId}
theorem run_insert (hT : P.underlying T = some (.map kt et)) (hk : P.underlying kt = some (.int .i64)) (hb : W.heap[b]? = some (.map (es.map mkV).toArray c)) (k : Int) (v : Value) (hn : ∀ x ∈ es, x.1 ≠ k) :
    (Instr.mapUpdate T (.map (some b)) (.int .i64 k) v).run P W = .ok () (W.putObj b (.map ((es ++ [(k, v, c)]).map mkV).toArray (c + 1))) := by
  have K := int_key hk
  obtain ⟨d, hd, hn'⟩ := K.under
  have hfk : (Instr.findKey kt (.int .i64 k) (es.map mkV).toArray.toList).run P W = .ok (ixV k es 0) W := by
    simp only [Instr.findKey, Sem.run_bind, run_underlying hd, Result.andThen]
    rw [findNow_mkV hn']
    rfl
  simp only [Instr.mapUpdate, Sem.run_bind, run_underlying hT, Result.andThen, getObj, Sem.run, hb, K.chk, Sem.run_pure]
  rw [hfk, ixV_none hn]
  simp only [Result.andThen, setObj, Sem.run, hb, World.putObj]
  simp [mkV]
theorem run_lookup (hT : P.underlying T = some (.map kt et)) (hk : P.underlying kt = some (.int .i64)) (hb : W.heap[b]? = some (.map (es.map mkV).toArray c)) (k : Int) (v : Value) (hx : (es.find? (fun x => decide (k = x.1))).map (·.2.1) = some v) :
    (Instr.lookup T (.map (some b)) (.int .i64 k) false).run P W = .ok v W := by
  have K := int_key hk
  obtain ⟨d, hd, hn'⟩ := K.under
  obtain ⟨j, hj⟩ := ixV_some (i := 0) hx
  have hfk : (Instr.findKey kt (.int .i64 k) (es.map mkV).toArray.toList).run P W = .ok (ixV k es 0) W := by
    simp only [Instr.findKey, Sem.run_bind, run_underlying hd, Result.andThen]
    rw [findNow_mkV hn']
    rfl
  simp only [Instr.lookup, Sem.run_bind, run_underlying hT, Result.andThen, getObj, Sem.run, hb, K.chk, Sem.run_pure]
  rw [hfk, hj]
  simp [Result.andThen]
end
theorem store_func (w : World) (a : Addr) (m : Mode) (fn : Fn) (first cap : Array Value) : (store a (.func fn first cap) m).run Tryz.prog w = stored Tryz.prog w a (.func fn first cap) m := run_store _ w a _ m rfl
/-! The eight. -/
abbrev fnV (n : Nat) : Value := .func (.func n) #[] #[]
def rowsD : Nat → Array Value
  | 1 => #[.int .i64 74, fnV 101, .int .i64 2, fnV 102]
  | 2 => #[.int .i64 74, fnV 105, .int .i64 2, fnV 102]
  | 3 => #[.int .i64 74, fnV 105, .int .i64 2, fnV 102]
  | 4 => #[.int .i64 70, fnV 100, .int .i64 70, fnV 108, .int .i64 71, fnV 109, .int .i64 72, fnV 110, .int .i64 73, fnV 111]
  | 5 => #[.int .i64 70, fnV 100, .int .i64 71, fnV 117, .int .i64 3, fnV 118]
  | 6 => #[.int .i64 70, fnV 100, .int .i64 71, fnV 119, .int .i64 74, fnV 101, .int .i64 75, fnV 120]
  | 7 => #[.int .i64 70, fnV 100, .int .i64 71, fnV 119, .int .i64 75, fnV 123]
  | 8 => #[.int .i64 70, fnV 100, .int .i64 71, fnV 127, .int .i64 74, fnV 105]
  | _ => #[]
def lenD : Nat → Nat
  | 1 => 2
  | 2 => 2
  | 3 => 2
  | 4 => 5
  | 5 => 3
  | 6 => 4
  | 7 => 3
  | 8 => 3
  | _ => 0
def doD : Nat → Nat
  | 1 => 103
  | 2 => 106
  | 3 => 107
  | 4 => 112
  | 5 => 113
  | 6 => 122
  | 7 => 124
  | 8 => 129
  | _ => 0
def valD (N k : Nat) : Value := .agg #[.slice (some ⟨N + 1 + k, 0, none⟩) (lenD k) (lenD k), fnV (doD k)]
def esD (N j : Nat) : List (Int × Value × Nat) := (List.range j).map (fun i => (((i + 1 : Nat) : Int), valD N (i + 1), i))
theorem esD_succ (N j : Nat) : esD N (j + 1) = esD N j ++ [(((j + 1 : Nat) : Int), valD N (j + 1), j)] := by unfold esD; rw [List.range_succ, List.map_append]; rfl
theorem esD_ne (N j : Nat) : ∀ x ∈ esD N j, x.1 ≠ ((j + 1 : Nat) : Int) := by
  intro x hx
  unfold esD at hx
  obtain ⟨i, hi, rfl⟩ := List.mem_map.1 hx
  have := List.mem_range.1 hi
  simp only
  omega
theorem esD_find (N : Nat) : ∀ (j k : Nat), 1 ≤ k → k ≤ j → ((esD N j).find? (fun x => decide ((k : Int) = x.1))).map (·.2.1) = some (valD N k)
  | 0, k, h1, h2 => by omega
  | j + 1, k, h1, h2 => by
    rw [esD_succ, List.find?_append]
    by_cases e : k = j + 1
    · subst e
      have : (esD N j).find? (fun x => decide (((j + 1 : Nat) : Int) = x.1)) = none := by
        rw [List.find?_eq_none]
        intro x hx
        have := esD_ne N j x hx
        simp only [decide_eq_true_eq]
        exact fun h => this h.symm
      rw [this]
      simp
    · have ih := esD_find N j k h1 (by omega)
      cases hf : (esD N j).find? (fun x => decide ((k : Int) = x.1)) with
      | none => rw [hf] at ih; cases ih
      | some x => rw [hf] at ih; simpa using ih
/-- j of the eight have been laid. -/
structure DSt (N j : Nat) (w W : World) : Prop where
  size : W.heap.size = N + 2 + j
  below : Below N w W
  node : W.heap[N]? = some (.cells #[.int .i64 70, fnV 100] 176 (0, 0))
  map : W.heap[N + 1]? = some (.map ((esD N j).map mkV).toArray j)
  rows : ∀ k, 1 ≤ k → k ≤ j → W.heap[N + 1 + k]? = some (.cells (rowsD k) 176 (0, 0))
theorem DSt.next {N j : Nat} {w W : World} (h : DSt N j w W) : DSt N (j + 1) w ((W.alloc (.cells (rowsD (j + 1)) 176)).putObj (N + 1) (.map ((esD N (j + 1)).map mkV).toArray (j + 1))) := by
  have hs := h.size
  have hnew : (W.alloc (.cells (rowsD (j + 1)) 176)).heap[N + 2 + j]? = some (.cells (rowsD (j + 1)) 176 (0, 0)) := by rw [← hs]; exact World.alloc_heap_new W _
  refine ⟨by rw [World.putObj_size, World.size_alloc, hs]; omega, ?_, ?_, ?_, ?_⟩
  · have h1 := h.below.alloc (by omega) (.cells (rowsD (j + 1)) 176)
    exact ⟨h1.os, h1.tape, h1.output, by rw [World.putObj_size]; exact h1.size, fun k hk => (World.putObj_heap_other (by omega)).trans (h1.block k hk)⟩
  · exact (World.putObj_heap_other (by omega)).trans (heap_old h.node)
  · exact World.putObj_heap_same (by rw [World.size_alloc]; omega)
  · intro k h1 h2
    refine (World.putObj_heap_other (by omega)).trans ?_
    by_cases e : k = j + 1
    · subst e
      rw [show N + 1 + (j + 1) = N + 2 + j by omega]
      exact hnew
    · exact heap_old (h.rows k h1 (by omega))
theorem wpList_put {ops : Array Oper} {rest : List Oper} {o : Oper} {a : Act} {Q : Exit → Act → World → Prop} {N j : Nat} {w W : World} (hg : o.guard = none) (m k v : Operand) (ho : o.op = .insert 115 m k v) (hd : o.dst = none)
    (hm : a.eval m = .map (some (N + 1))) (hk : a.eval k = .int .i64 ((j + 1 : Nat) : Int)) (hv : a.eval v = valD N (j + 1)) (hD : DSt N j w W)
    (h : ∀ W2, DSt N (j + 1) w W2 → wpList Tryz.prog ops Q rest a W2) : wpList Tryz.prog ops Q (o :: rest) a (W.alloc (.cells (rowsD (j + 1)) 176)) := by
  refine wpList_plain hg fun K hK => ?_
  have hr := run_insert (P := Tryz.prog) (T := 115) (W := W.alloc (.cells (rowsD (j + 1)) 176)) Tryz.underlying115 Tryz.underlying3 (heap_old hD.map) ((j + 1 : Nat) : Int) (valD N (j + 1)) (esD_ne N j)
  rw [← esD_succ] at hr
  unfold Oper.wp
  simp only [execOp, ho, hm, hk, hv, hr, Sem.run_bind, Result.andThen_ok, Sem.run_pure]
  have h2 := h _ hD.next
  refine hK _ _ ?_
  rw [hd]
  exact h2
theorem DSt.facts {N j : Nat} {w W : World} (h : DSt N j w W) : W.heap.size = N + 2 + j ∧ W.cell? ⟨N, 0, none⟩ = some (.int .i64 70) ∧ W.cell? ⟨N, 1, none⟩ = some (fnV 100) :=
  ⟨h.size, (cell_of_row _ _ _ _ _ _ h.node).trans rfl, (cell_of_row _ _ _ _ _ _ h.node).trans rfl⟩
def DoingsPost (w : World) (e : Ending) (w' : World) : Prop := e = .returned (.map (some (w.heap.size + 1))) ∧ DSt w.heap.size 8 w w'
set_option maxRecDepth 100000 in
set_option maxHeartbeats 8000000 in
theorem doings_calls (w : World) : Calls Tryz.prog 53 #[] w (DoingsPost w) := by
  obtain ⟨N, hN⟩ : ∃ N, N = w.heap.size := ⟨_, rfl⟩
  have hD : DSt N 0 w ((w.alloc (.cells #[.int .i64 70, fnV 100] 176)).alloc (.map #[] 0)) := by
    refine ⟨by simp [hN], ?_, ?_, ?_, fun k h1 h2 => by omega⟩
    · exact ((Below.refl _ _).alloc (by omega) _).alloc (by simp; omega) _
    · rw [hN]; exact heap_old (World.alloc_heap_new w _)
    · have := World.alloc_heap_new (w.alloc (.cells #[.int .i64 70, fnV 100] 176)) (.map #[] 0)
      rw [World.size_alloc, ← hN] at this
      exact this
  obtain ⟨W0, hW0⟩ : ∃ W0, (w.alloc (.cells #[.int .i64 70, fnV 100] 176)).alloc (.map #[] 0) = W0 := ⟨_, rfl⟩
  rw [hW0] at hD
  have HN := Lib.hid hN; have HW0 := Lib.hid hW0; have HD0 := Lib.hid hD
  clear hN hW0 hD
  go_enter Tryz.func53, Tryz.ntmps53
  have hmm := @run_makeMap Tryz.prog
  have hsf := store_func
  go_upto_region 2 with (fail)
  go_step
  iterate 3 go_step
  rw [HW0.out, ← HN.out]
  clear hmm hsf HW0
  have hs0 : W0.heap.size = N + 2 := HD0.out.facts.1
  have ka0 := HD0.out.facts.2.1; have kb0 := HD0.out.facts.2.2
  iterate 12 go_step
  refine wpList_put (j := 0) rfl _ _ _ rfl rfl rfl rfl rfl HD0.out ?_
  intro W1 hD
  have HD1 := Lib.hid hD
  clear hD hs0 ka0 kb0 HD0 W0
  have hs1 : W1.heap.size = N + 3 := HD1.out.facts.1
  have ka1 := HD1.out.facts.2.1; have kb1 := HD1.out.facts.2.2
  iterate 12 go_step
  refine wpList_put (j := 1) rfl _ _ _ rfl rfl rfl rfl rfl HD1.out ?_
  intro W2 hD
  have HD2 := Lib.hid hD
  clear hD hs1 ka1 kb1 HD1 W1
  have hs2 : W2.heap.size = N + 4 := HD2.out.facts.1
  have ka2 := HD2.out.facts.2.1; have kb2 := HD2.out.facts.2.2
  iterate 12 go_step
  refine wpList_put (j := 2) rfl _ _ _ rfl rfl rfl rfl rfl HD2.out ?_
  intro W3 hD
  have HD3 := Lib.hid hD
  clear hD hs2 ka2 kb2 HD2 W2
  have hs3 : W3.heap.size = N + 5 := HD3.out.facts.1
  have ka3 := HD3.out.facts.2.1; have kb3 := HD3.out.facts.2.2
  iterate 21 go_step
  refine wpList_put (j := 3) rfl _ _ _ rfl rfl rfl rfl rfl HD3.out ?_
  intro W4 hD
  have HD4 := Lib.hid hD
  clear hD hs3 ka3 kb3 HD3 W3
  have hs4 : W4.heap.size = N + 6 := HD4.out.facts.1
  have ka4 := HD4.out.facts.2.1; have kb4 := HD4.out.facts.2.2
  iterate 15 go_step
  refine wpList_put (j := 4) rfl _ _ _ rfl rfl rfl rfl rfl HD4.out ?_
  intro W5 hD
  have HD5 := Lib.hid hD
  clear hD hs4 ka4 kb4 HD4 W4
  have hs5 : W5.heap.size = N + 7 := HD5.out.facts.1
  have ka5 := HD5.out.facts.2.1; have kb5 := HD5.out.facts.2.2
  iterate 18 go_step
  refine wpList_put (j := 5) rfl _ _ _ rfl rfl rfl rfl rfl HD5.out ?_
  intro W6 hD
  have HD6 := Lib.hid hD
  clear hD hs5 ka5 kb5 HD5 W5
  have hs6 : W6.heap.size = N + 8 := HD6.out.facts.1
  have ka6 := HD6.out.facts.2.1; have kb6 := HD6.out.facts.2.2
  iterate 15 go_step
  refine wpList_put (j := 6) rfl _ _ _ rfl rfl rfl rfl rfl HD6.out ?_
  intro W7 hD
  have HD7 := Lib.hid hD
  clear hD hs6 ka6 kb6 HD6 W6
  have hs7 : W7.heap.size = N + 9 := HD7.out.facts.1
  have ka7 := HD7.out.facts.2.1; have kb7 := HD7.out.facts.2.2
  iterate 15 go_step
  refine wpList_put (j := 7) rfl _ _ _ rfl rfl rfl rfl rfl HD7.out ?_
  intro W8 hD
  have HD8 := Lib.hid hD
  clear hD hs7 ka7 kb7 HD7 W7
  go_wp2_with fail
  go_ret
  refine ⟨by rw [← HN.out]; rfl, ?_⟩
  rw [← HN.out]
  exact HD8.out
end Go.Proofs.YthdenkkllpkplaaGreat.Doings
end
section
/- slices.Index, Contains at []int; (*work).is. -/
namespace Go.Proofs.YthdenkkllpkplaaGreat.Work
open Go Go.RowKit Go.Proofs.YthdenkkllpkplaaGreat.Seq Go.Proofs.YthdenkkllpkplaaGreat.WS Go.Proofs.YthdenkkllpkplaaGreat.FS Go.Proofs.YthdenkkllpkplaaGreat.Mem Go.Proofs.YthdenkkllpkplaaGreat.Rd Go.Proofs.YthdenkkllpkplaaGreat.Shapes Go.Proofs.YthdenkkllpkplaaGreat.Word Go.Proofs.YthdenkkllpkplaaGreat.FFam Go.Proofs.YthdenkkllpkplaaGreat.OwnF
set_option linter.unusedVariables false
set_option linter.unusedSimpArgs false

theorem ret_i {a b : Int} (h : a = b) : Ending.returned (.int .i64 a) = .returned (.int .i64 b) := by rw [h]
def idxI (l : List Int) (x : Int) : Int := match l.findIdx? (fun y => y == x) with | some i => i | none => -1
theorem idx_hit {l : List Int} {x : Int} {k : Nat} (hk : k < l.length) (hx : l[k] = x) (hn : ∀ j (hj : j < l.length), j < k → l[j] ≠ x) : idxI l x = k := by
  unfold idxI
  have : l.findIdx? (fun y => y == x) = some k := by
    rw [List.findIdx?_eq_some_iff_getElem]
    exact ⟨hk, by simpa using hx, fun j hj => by simpa using hn j (by omega) hj⟩
  rw [this]
theorem idx_none {l : List Int} {x : Int} (hn : ∀ j (hj : j < l.length), l[j] ≠ x) : idxI l x = -1 := by
  unfold idxI
  have : l.findIdx? (fun y => y == x) = none := by
    rw [List.findIdx?_eq_none_iff]
    intro y hy
    obtain ⟨j, hj, rfl⟩ := List.mem_iff_getElem.1 hy
    simpa using hn j hj
  rw [this]
theorem idx_any (l : List Int) (x : Int) : decide (0 ≤ idxI l x) = l.any (fun y => y == x) := by
  unfold idxI
  cases h : l.findIdx? (fun y => y == x) with
  | none =>
    rw [List.findIdx?_eq_none_iff] at h
    rw [decide_eq_false (by decide)]
    symm
    rw [List.any_eq_false]
    intro y hy
    rw [h y hy]; simp
  | some i =>
    rw [List.findIdx?_eq_some_iff_getElem] at h
    obtain ⟨hi, h1, _⟩ := h
    rw [decide_eq_true (by simp)]
    symm
    rw [List.any_eq_true]
    exact ⟨l[i], List.getElem_mem _, h1⟩
theorem Index_calls (w : World) (v : Value) (l : List Int) (h : RdL (intE .i64) 1 w.heap.size w v l) (x : Int) : Calls Tryz.prog 194 #[v, .int .i64 x] w fun e w' => e = .returned (.int .i64 (idxI l x)) ∧ w = w' := by
  obtain ⟨A0, c0, rfl, hl0, hc0, h'⟩ := h.form
  simp only [maxLen] at hc0
  have Hh := Lib.hid h'
  clear h h'
  go_enter Tryz.func194, Tryz.ntmps194
  go_wp2_with fail
  go_loop [8] (fun i => ∃ k : Nat, k ≤ l.length ∧ i = .int .i64 k ∧ Hid (∀ j (hj : j < l.length), j < k → l[j] ≠ x)) (fun i => l.length - (intOf i).toNat)
  case atStart => exact ⟨0, Nat.zero_le _, rfl, Lib.hid (fun j _ h => absurd h (Nat.not_lt_zero _))⟩
  case round =>
    obtain ⟨k, hk, rfl, hn⟩ := hrel
    by_cases hlt : k < l.length
    · obtain ⟨b, o, rfl, hb, e1, _⟩ := intE_at Hh.out hlt
      by_cases hx : l[k] = x
      · have hr := idx_hit hlt hx hn.out
        have Hr := Lib.hid hr
        have e2 : (x == l[k]) = true := by rw [hx]; simp
        clear hr hx
        go_wp2_with fail
        go_ret
        exact ⟨ret_i Hr.out.symm, rfl⟩
      · have e2 : (x == l[k]) = false := by rw [beq_eq_false_iff_ne]; exact fun h => hx h.symm
        have hn2 : ∀ j (hj : j < l.length), j < k + 1 → l[j] ≠ x := fun j hj hjk => by
          by_cases e : j = k
          · subst e; exact hx
          · exact hn.out j hj (by omega)
        have Hn2 := Lib.hid hn2
        clear hn2 hx
        go_wp2_with fail
        go_round
        case rel => exact ⟨k + 1, by omega, by go_num, Hn2⟩
        case measure => simp [intOf]; omega
    · have hr := idx_none (l := l) (x := x) (fun j hj => hn.out j hj (by omega))
      have Hr := Lib.hid hr
      clear hr
      go_wp2_with fail
      go_ret
      exact ⟨ret_i Hr.out.symm, rfl⟩
theorem Contains_calls (w : World) (v : Value) (l : List Int) (h : RdL (intE .i64) 1 w.heap.size w v l) (x : Int) : Calls Tryz.prog 176 #[v, .int .i64 x] w fun e w' => e = .returned (.bool (l.any (fun y => y == x))) ∧ w = w' := by
  have hi := Index_calls w v l h x
  have ha := idx_any l x
  obtain ⟨A0, c0, rfl, _, _, _⟩ := h.form
  rw [← ha]
  have Hi := Lib.hid hi
  clear hi h ha
  go_enter Tryz.func176, Tryz.ntmps176
  go_wp2_with (go_at_call 194; (with_reducible refine (Hi.out).mono ?_); rintro e w5 ⟨rfl, rfl⟩)
  go_ret
  exact ⟨rfl, rfl⟩
section
variable [Avoid] {base wk g c : Nat} {o : Opn} {f : Fo}
/-- A field of the node of the operation. -/
theorem Wk.node {w : World} (h : Wk base wk g c o f w) {i : Int} (hi : isNode f i = true) : ∃ va vk, w.cell? ⟨g, i.toNat * 6, none⟩ = some (.int .i64 (at_ f i).kind) ∧ w.cell? ⟨g, i.toNat * 6 + 1, none⟩ = some (.string (at_ f i).name) ∧ w.cell? ⟨g, i.toNat * 6 + 2, none⟩ = some (.string (at_ f i).text) ∧
    w.cell? ⟨g, i.toNat * 6 + 3, none⟩ = some va ∧ w.cell? ⟨g, i.toNat * 6 + 4, none⟩ = some (.int .i64 (at_ f i).parent) ∧ w.cell? ⟨g, i.toNat * 6 + 5, none⟩ = some vk ∧
    RdS attrS 2 (fun b => b ≠ g) w va (at_ f i).attrs ∧ RdS intS 1 (fun b => b ≠ g) w vk (at_ f i).kids := by
  obtain ⟨k, rfl, hk⟩ := node_nat hi
  obtain ⟨cs, va, vk, hcs, hc, r1, r2⟩ := h.own.ne_block hk
  rw [← at_nat hk] at hcs r1 r2
  rw [Int.toNat_natCast]
  exact ⟨va, vk, hc 0 _ (by rw [hcs]; rfl), hc 1 _ (by rw [hcs]; rfl), hc 2 _ (by rw [hcs]; rfl), hc 3 _ (by rw [hcs]; rfl), hc 4 _ (by rw [hcs]; rfl), hc 5 _ (by rw [hcs]; rfl), r1, r2⟩
theorem Wk.free {w : World} (h : Wk base wk g c o f w) (h0 : 0 < f.length) : (∀ j, w.frozen? ⟨g, j, none⟩ = false) ∧ (∀ j, w.frozen? ⟨wk, j, none⟩ = false) ∧ g < w.heap.size ∧ wk < w.heap.size := by
  obtain ⟨g', c', e, _, hlt, hz, _⟩ := h.own.form h0
  injection e with e
  injection e with e
  injection e with e
  subst e
  exact ⟨hz, fun j => free_of h.box j, hlt, lt_heap h.box⟩
theorem is_calls (w : World) (h : Wk base wk g c o f w) (hi : isNode f o.id = true) (v : Value) (l : List Int) (hr : RdL (intE .i64) 1 w.heap.size w v l) :
    Calls Tryz.prog 128 #[.pointer (some ⟨wk, 0, none⟩), v] w (ChkPost (l.any (fun y => y == (at_ f o.id).kind)) w) := by
  have hn := node_calls w h hi
  obtain ⟨va, vk, k0, _, _, _, _, _, _, _⟩ := h.node hi
  have hc := fun n => Contains_calls (w.drewN n) v l (hr.keep (intE_keeps _) (drewN_below (Below.refl _ _) n) (Nat.le_refl _)) (at_ f o.id).kind
  obtain ⟨A0, c0, rfl, _, _, _⟩ := hr.form
  have Hn := Lib.hid hn; have Hc := Lib.hid hc
  clear hn hc hr h hi
  generalize (at_ f o.id).kind = kd at *
  go_enter Tryz.func128, Tryz.ntmps128
  go_wp2_with (first | (go_at_call 114; (with_reducible refine (Hn.out).mono ?_); rintro e w5 ⟨rfl, n5, rfl⟩) | (go_at_call 176; (with_reducible refine (Hc.out _).mono ?_); rintro e w6 ⟨rfl, rfl⟩))
  go_ret
  exact ⟨rfl, drewN_below (Below.refl _ _) _⟩
end
theorem lit_ints (w : World) (l : List Int) (hl : l.length ≤ 100) (hw : ∀ x ∈ l, (Lit.int .i64 x).wf = true) : RdL (intE .i64) 1 (w.alloc (.cells (l.map (Value.int .i64)).toArray 3)).heap.size (w.alloc (.cells (l.map (Value.int .i64)).toArray 3)) (.slice (some ⟨w.heap.size, 0, none⟩) l.length l.length) l := by
  refine ⟨_, _, rfl, Nat.le_refl _, by simp only [maxLen]; omega, fun h0 => ⟨w.heap.size, 0, rfl, by simp, fun i hi => ⟨[.int .i64 l[i]], rfl, fun j u hj => ?_, rfl, hw _ (List.getElem_mem _)⟩⟩⟩
  have hj0 : j = 0 := by have := (List.getElem?_eq_some_iff.1 hj).1; simp at this; omega
  subst hj0
  simp at hj
  subst hj
  rw [cell_of_row _ _ _ _ _ _ (World.alloc_heap_new _ _)]
  simp [hi]
section
variable [Avoid] {base wk g c : Nat} {o : Opn} {f : Fo}
theorem element_chk (hi : isNode f o.id = true) : Chk 119 base wk g c o f (elemB f o) := by
  intro w h
  have hs := is_calls (w.alloc (.cells #[.int .i64 1] 3)) (h.below ((Below.refl _ _).alloc (Nat.le_refl _) _)) hi _ [1] (lit_ints w [1] (by decide) (by decide))
  have e : [(1 : Int)].any (fun y => y == (at_ f o.id).kind) = elemB f o := by
    unfold elemB
    rw [Bool.eq_iff_iff]; simp; exact ⟨fun h => h.symm, fun h => h.symm⟩
  rw [e] at hs
  simp only [List.length_cons, List.length_nil, Nat.zero_add, Nat.reduceAdd] at hs
  have Hs := Lib.hid hs
  clear hs h hi e
  go_enter Tryz.func119, Tryz.ntmps119
  go_wp2_with (go_at_call 128; (with_reducible refine (Hs.out).mono ?_); rintro e w5 ⟨rfl, hb5⟩; have Hb5 := Lib.hid hb5; clear hb5)
  go_ret
  exact ⟨rfl, bthen ((Below.refl _ _).alloc (Nat.le_refl _) _) Hb5.out⟩
theorem texts_chk (hi : isNode f o.id = true) : Chk 127 base wk g c o f ((at_ f o.id).kind == 2 || (at_ f o.id).kind == 3) := by
  intro w h
  have hs := is_calls (w.alloc (.cells #[.int .i64 2, .int .i64 3] 3)) (h.below ((Below.refl _ _).alloc (Nat.le_refl _) _)) hi _ [2, 3] (lit_ints w [2, 3] (by decide) (by decide))
  have e : [(2 : Int), 3].any (fun y => y == (at_ f o.id).kind) = ((at_ f o.id).kind == 2 || (at_ f o.id).kind == 3) := by
    rw [Bool.eq_iff_iff]; simp; constructor
    · rintro (h | h)
      · exact .inl h.symm
      · exact .inr h.symm
    · rintro (h | h)
      · exact .inl h.symm
      · exact .inr h.symm
  rw [e] at hs
  generalize ((at_ f o.id).kind == 2 || (at_ f o.id).kind == 3) = bb at *
  simp only [List.length_cons, List.length_nil, Nat.zero_add, Nat.reduceAdd] at hs
  have Hs := Lib.hid hs
  clear hs h hi e
  go_enter Tryz.func127, Tryz.ntmps127
  go_wp2_with (go_at_call 128; (with_reducible refine (Hs.out).mono ?_); rintro e w5 ⟨rfl, hb5⟩; have Hb5 := Lib.hid hb5; clear hb5)
  go_ret
  exact ⟨rfl, bthen ((Below.refl _ _).alloc (Nat.le_refl _) _) Hb5.out⟩
theorem parent_chk (hi : isNode f o.id = true) : Chk 118 base wk g c o f ((at_ f o.id).parent != -1) := by
  intro w h
  have hn := node_calls w h hi
  obtain ⟨va, vk, _, _, _, _, k4, _, _, _⟩ := h.node hi
  have Hn := Lib.hid hn
  clear hn h hi
  generalize (at_ f o.id).parent = pr at *
  go_enter Tryz.func118, Tryz.ntmps118
  go_wp2_with (go_at_call 114; (with_reducible refine (Hn.out).mono ?_); rintro e w5 ⟨rfl, n5, rfl⟩)
  go_ret
  exact ⟨rfl, drewN_below (Below.refl _ _) _⟩
end
end Go.Proofs.YthdenkkllpkplaaGreat.Work
end
