/- A forest that a call has made: a row of its own; what lies in its nodes lies elsewhere. -/
import Derived.Test.YtbbompmpecblgaaFTops
import Derived.Maps.AppendAt
namespace Go.Proofs.Ytbbompmpecblgaa.OwnF
open Go Go.RowKit Go.Proofs.Ytbbompmpecblgaa.Seq Go.Proofs.Ytbbompmpecblgaa.WS Go.Proofs.Ytbbompmpecblgaa.FS Go.Proofs.Ytbbompmpecblgaa.Mem Go.Proofs.Ytbbompmpecblgaa.Rd Go.Proofs.Ytbbompmpecblgaa.Shapes Go.Proofs.Ytbbompmpecblgaa.FFam
set_option linter.unusedVariables false
set_option linter.unusedSimpArgs false

/-- v reads as l, in blocks of S. -/
def RdS {α : Type} (E : List Value → α → Prop) (sz : Nat) (S : Nat → Prop) (w : World) (v : Value) (l : List α) : Prop :=
  ∃ A c, v = .slice A l.length c ∧ l.length ≤ c ∧ c ≤ maxLen ∧ (0 < l.length → ∃ b o, A = some (⟨b, o, none⟩ : Addr) ∧ S b ∧ b < w.heap.size ∧
    ∀ i (h : i < l.length), ∃ cs : List Value, cs.length = sz ∧ (∀ j u, cs[j]? = some u → w.cell? ⟨b, o + i * sz + j, none⟩ = some u) ∧ E cs l[i])
def attrS (cs : List Value) (a : Av) : Prop := cs = [.string a.name, .string a.value] ∧ a.name.size ≤ maxLen ∧ a.value.size ≤ maxLen
def intS (cs : List Value) (z : Int) : Prop := cs = [.int .i64 z] ∧ (Lit.int .i64 z).wf = true
section
variable {α : Type} {E : List Value → α → Prop} {sz : Nat} {S S' : Nat → Prop} {w w' : World} {v : Value} {l : List α}
theorem RdS.nil : RdS E sz S w (.slice none 0 0) [] := ⟨none, 0, rfl, Nat.le_refl _, by simp [maxLen], fun h => absurd h (by simp)⟩
theorem cell_same {w w' : World} {g : Nat} (h : w'.heap[g]? = w.heap[g]?) (j : Nat) : w'.cell? ⟨g, j, none⟩ = w.cell? ⟨g, j, none⟩ := by simp [World.cell?, h]
theorem RdS.keep (h : RdS E sz S w v l) (hk : ∀ b, S b → b < w.heap.size → w'.heap[b]? = w.heap[b]?) (hs : w.heap.size ≤ w'.heap.size) (hS : ∀ b, S b → b < w.heap.size → S' b) : RdS E sz S' w' v l := by
  obtain ⟨A, c, hv, h1, h2, h3⟩ := h
  refine ⟨A, c, hv, h1, h2, fun h0 => ?_⟩
  obtain ⟨b, o, e, hb, hlt, hc⟩ := h3 h0
  refine ⟨b, o, e, hS b hb hlt, by omega, fun i hi => ?_⟩
  obtain ⟨cs, h4, h5, h6⟩ := hc i hi
  exact ⟨cs, h4, fun j u hj => (cell_same (hk b hb hlt) _).trans (h5 j u hj), h6⟩
theorem RdS.rd (h : RdS E sz S w v l) : RdL (fun _ _ => E) sz w.heap.size w v l := by
  obtain ⟨A, c, hv, h1, h2, h3⟩ := h
  refine ⟨A, c, hv, h1, h2, fun h0 => ?_⟩
  obtain ⟨b, o, e, hb, hlt, hc⟩ := h3 h0
  exact ⟨b, o, e, hlt, hc⟩
theorem RdS.of_rd {B : Nat} (h : RdL (fun _ _ => E) sz B w v l) (hB : B ≤ w.heap.size) : RdS E sz (fun b => b < B) w v l := by
  obtain ⟨A, c, hv, h1, h2, h3⟩ := h
  refine ⟨A, c, hv, h1, h2, fun h0 => ?_⟩
  obtain ⟨b, o, e, hlt, hc⟩ := h3 h0
  exact ⟨b, o, e, hlt, by omega, hc⟩
/-- A row of one's own. -/
theorem RdS.of_own {base : Nat} {e : TypeId} {n : Nat} {xs : List Value} (h : w.ownsRow base e sz v n xs) (hl : l.length = n) (hS : ∀ g, v.ownBlock = some g → S g) (hE : ∀ i (hi : i < l.length), E ((xs.drop (i * sz)).take sz) l[i]) : RdS E sz S w v l := by
  have hx := h.1
  have hlt := h.lt
  rcases h.2 with ⟨rfl, rfl⟩ | ⟨g, cap, cur, rfl, hb, hh, hc, hm, hcs, ht⟩
  · have : l = [] := List.eq_nil_of_length_eq_zero hl
    subst this
    exact RdS.nil
  · subst hl
    refine ⟨_, cap, rfl, hc, hm, fun h0 => ⟨_, _, rfl, hS g (by simp [Value.ownBlock]), (hlt g rfl).2, fun i hi => ⟨(xs.drop (i * sz)).take sz, ?_, fun j u hj => ?_, hE i hi⟩⟩⟩
    · rw [List.length_take, List.length_drop, hx]
      have : (i + 1) * sz ≤ l.length * sz := Nat.mul_le_mul_right _ hi
      rw [Nat.add_mul] at this
      omega
    · rw [List.getElem?_take] at hj
      split at hj
      · rw [List.getElem?_drop] at hj
        have := h.cells (g := g) rfl _ _ hj
        rw [Addr.add_lit] at this
        rw [Nat.add_assoc]
        exact this
      · cases hj
theorem RdS.form (h : RdS E sz S w v l) : ∃ A c, v = .slice A l.length c ∧ l.length ≤ c ∧ c ≤ maxLen := by obtain ⟨A, c, h1, h2, h3, _⟩ := h; exact ⟨A, c, h1, h2, h3⟩
end
/-- The cells of a node. -/
def nodeS (S : Nat → Prop) (w : World) (cs : List Value) (n : Nd) : Prop := ∃ va vk, cs = [.int .i64 n.kind, .string n.name, .string n.text, va, .int .i64 n.parent, vk] ∧ RdS attrS 2 S w va n.attrs ∧ RdS intS 1 S w vk n.kids ∧
  n.name.size ≤ maxLen ∧ n.text.size ≤ maxLen ∧ (Lit.int .i64 n.kind).wf = true ∧ (Lit.int .i64 n.parent).wf = true
theorem nodeS.keep {S S' : Nat → Prop} {w w' : World} {cs : List Value} {n : Nd} (h : nodeS S w cs n) (hk : ∀ b, S b → b < w.heap.size → w'.heap[b]? = w.heap[b]?) (hs : w.heap.size ≤ w'.heap.size) (hS : ∀ b, S b → b < w.heap.size → S' b) : nodeS S' w' cs n := by
  obtain ⟨va, vk, h1, h2, h3, h4⟩ := h
  exact ⟨va, vk, h1, h2.keep hk hs hS, h3.keep hk hs hS, h4⟩
theorem nodeS.len {S : Nat → Prop} {w : World} {cs : List Value} {n : Nd} (h : nodeS S w cs n) : cs.length = 6 := by obtain ⟨va, vk, rfl, _⟩ := h; rfl
theorem nodeS.one {S : Nat → Prop} {w : World} {cs : List Value} {n : Nd} (h : nodeS S w cs n) : ∀ u ∈ cs, u.oneCell' = true := by
  obtain ⟨va, vk, rfl, h2, h3, _⟩ := h
  obtain ⟨_, _, rfl, _⟩ := h2.form
  obtain ⟨_, _, rfl, _⟩ := h3.form
  intro u hu
  simp at hu
  rcases hu with rfl | rfl | rfl | rfl | rfl | rfl <;> rfl
theorem nodeS.rd {S : Nat → Prop} {w : World} {cs : List Value} {n : Nd} (h : nodeS S w cs n) : nodeE w.heap.size w cs n := by
  obtain ⟨va, vk, h1, h2, h3, h4⟩ := h
  exact ⟨va, vk, h1, h2.rd, h3.rd, h4⟩
theorem nodeS.of_rd {B : Nat} {w : World} {cs : List Value} {n : Nd} (h : nodeE B w cs n) (hB : B ≤ w.heap.size) : nodeS (fun b => b < B) w cs n := by
  obtain ⟨va, vk, h1, h2, h3, h4⟩ := h
  exact ⟨va, vk, h1, RdS.of_rd h2 hB, RdS.of_rd h3 hB, h4⟩
/-- v, a row of T's of the call's own, reads as f. -/
def OwnF (T : TypeId) (base : Nat) (w : World) (v : Value) (f : Fo) : Prop := ∃ xs, w.ownsRow base T 6 v f.length xs ∧ ∀ i (hi : i < f.length), nodeS (fun b => v.ownBlock ≠ some b) w ((xs.drop (i * 6)).take 6) f[i]
section
variable {T : TypeId} {base : Nat} {w w' : World} {v : Value} {f : Fo}
theorem OwnF.rd (h : OwnF T base w v f) : RdF w.heap.size w v f := by
  obtain ⟨xs, h1, h2⟩ := h
  exact RdL.of_own h1 rfl (fun g hg => (h1.lt g hg).2) (fun i hi => (h2 i hi).rd)
theorem OwnF.keep (h : OwnF T base w v f) (hk : ∀ b, b < w.heap.size → w'.heap[b]? = w.heap[b]?) (hs : w.heap.size ≤ w'.heap.size) : OwnF T base w' v f := by
  obtain ⟨xs, h1, h2⟩ := h
  exact ⟨xs, own_keep h1 (fun g hg => hk g (h1.lt g hg).2), fun i hi => (h2 i hi).keep (fun b _ hb => hk b hb) hs (fun _ x _ => x)⟩
theorem OwnF.below (h : OwnF T base w v f) (hb : Below w.heap.size w w') : OwnF T base w' v f := h.keep (fun b hl => hb.block b hl) hb.size
theorem OwnF.nil : OwnF T base w (.slice none 0 0) [] := ⟨[], World.ownsRow_nil _ _ _ _, fun i hi => absurd hi (by simp)⟩
/-- Behind an append. -/
theorem OwnF.more {v' : Value} {g : Fo} {xs news : List Value} (h1 : w.ownsRow base T 6 v f.length xs) (h2 : ∀ i (hi : i < f.length), nodeS (fun b => v.ownBlock ≠ some b) w ((xs.drop (i * 6)).take 6) f[i]) (hn : news.length = g.length * 6)
    (hg : ∀ i (hi : i < g.length), nodeS (fun b => v.ownBlock ≠ some b) w ((news.drop (i * 6)).take 6) g[i]) (ho : w'.ownsRow base T 6 v' (f.length + g.length) (xs ++ news)) (hgr : w.grownBy w' v.ownBlock) (hat : v'.ownBlock = v.ownBlock ∨ v'.ownBlock = some w.heap.size) : OwnF T base w' v' (f ++ g) := by
  have hx := h1.1
  have hk : ∀ b, v.ownBlock ≠ some b → b < w.heap.size → w'.heap[b]? = w.heap[b]? := fun b hb hlt => hgr.block b hlt (fun e => hb e.symm)
  have hS : ∀ b, v.ownBlock ≠ some b → b < w.heap.size → v'.ownBlock ≠ some b := fun b hb hlt => by
    rcases hat with e | e
    · rw [e]; exact hb
    · rw [e]; intro e2; injection e2 with e2; omega
  refine ⟨xs ++ news, by rw [List.length_append]; exact ho, fun i hi => ?_⟩
  by_cases hif : i < f.length
  · have : i * 6 + 6 ≤ xs.length := by omega
    rw [List.getElem_append_left hif, List.drop_append_of_le_length (by omega), List.take_append_of_le_length (by rw [List.length_drop]; omega)]
    exact (h2 i hif).keep hk hgr.size hS
  · have hi2 : i - f.length < g.length := by rw [List.length_append] at hi; omega
    rw [List.getElem_append_right (by omega), List.drop_append, List.drop_eq_nil_of_le (by omega), List.nil_append, show i * 6 - xs.length = (i - f.length) * 6 by omega]
    exact (hg _ hi2).keep hk hgr.size hS
theorem take_set_ne {xs : List Value} {i k j : Nat} {u : Value} (hk : k ≠ i) (hj : j < 6) : (((xs.set (i * 6 + j) u).drop (k * 6)).take 6) = ((xs.drop (k * 6)).take 6) := by
  apply List.ext_getElem?
  intro m
  rw [List.getElem?_take, List.getElem?_take]
  split
  · rw [List.getElem?_drop, List.getElem?_drop, List.getElem?_set_ne (by omega)]
  · rfl
theorem take_set_eq {xs : List Value} {i j : Nat} {u : Value} (hj : j < 6) : (((xs.set (i * 6 + j) u).drop (i * 6)).take 6) = ((xs.drop (i * 6)).take 6).set j u := by
  apply List.ext_getElem?
  intro m
  rw [List.getElem?_take, List.getElem?_set, List.length_take, List.length_drop, List.getElem?_take, List.getElem?_drop, List.getElem?_drop, List.getElem?_set]
  by_cases hm : m < 6
  · rw [if_pos hm, if_pos hm]
    by_cases e : j = m
    · subst e
      rw [if_pos rfl, if_pos rfl]
      by_cases hl : i * 6 + j < xs.length
      · rw [if_pos hl, if_pos (by omega)]
      · rw [if_neg hl, if_neg (by omega)]
    · rw [if_neg (by omega), if_neg e]
  · rw [if_neg hm, if_neg hm, if_neg (by omega)]
/-- A field is stored. -/
theorem OwnF.store {g c : Nat} (h : OwnF T base w (.slice (some ⟨g, 0, none⟩) f.length c) f) {i j : Nat} (hi : i < f.length) (hj : j < 6) {u : Value} {n : Nd}
    (hn : ∀ cs, nodeS (fun b => b ≠ g) w cs f[i] → nodeS (fun b => b ≠ g) w (cs.set j u) n) : OwnF T base (w.setCell ⟨g, i * 6 + j, none⟩ u) (.slice (some ⟨g, 0, none⟩) f.length c) (f.set i n) := by
  obtain ⟨xs, h1, h2⟩ := h
  have hS : (fun b => (Value.slice (some ⟨g, 0, none⟩) f.length c).ownBlock ≠ some b) = (fun b => b ≠ g) := by
    funext b
    simp only [Value.ownBlock, eq_iff_iff]
    constructor
    · intro h e; exact h (by rw [e])
    · intro h e; injection e with e; exact h e.symm
  have hk : ∀ b, b ≠ g → b < w.heap.size → (w.setCell ⟨g, i * 6 + j, none⟩ u).heap[b]? = w.heap[b]? := fun b hb _ => Below.heap_setCell _ _ _ _ hb
  have hsz : w.heap.size ≤ (w.setCell ⟨g, i * 6 + j, none⟩ u).heap.size := by simp [World.setCell]
  refine ⟨xs.set (i * 6 + j) u, by rw [List.length_set]; exact (h1.stored (i * 6 + j) u).1, fun k hk' => ?_⟩
  rw [List.length_set] at hk'
  rw [hS] at h2 ⊢
  by_cases e : i = k
  · subst e
    rw [List.getElem_set_self, take_set_eq hj]
    exact (hn _ (h2 i hk')).keep hk hsz (fun _ x _ => x)
  · rw [List.getElem_set_ne e, take_set_ne (fun h => e h.symm) hj]
    exact (h2 k hk').keep hk hsz (fun _ x _ => x)
/-- What a field holds. -/
theorem OwnF.form (h : OwnF T base w v f) (h0 : 0 < f.length) : ∃ g c, v = .slice (some ⟨g, 0, none⟩) f.length c ∧ base ≤ g ∧ g < w.heap.size ∧ (∀ o, w.frozen? ⟨g, o, none⟩ = false) ∧ f.length ≤ c ∧ c ≤ maxLen := by
  obtain ⟨xs, h1, h2⟩ := h
  have hlt := h1.lt
  rcases h1.2 with ⟨_, hn⟩ | ⟨g, cap, cur, rfl, hb, hh, hc, hm, _⟩
  · omega
  · exact ⟨g, cap, rfl, hb, (hlt g rfl).2, fun o => free_of hh o, hc, hm⟩
theorem OwnF.ne_block {g c : Nat} (h : OwnF T base w (.slice (some ⟨g, 0, none⟩) f.length c) f) {i : Nat} (hi : i < f.length) : ∃ cs va vk, cs = [.int .i64 f[i].kind, .string f[i].name, .string f[i].text, va, .int .i64 f[i].parent, vk] ∧ (∀ j u, cs[j]? = some u → w.cell? ⟨g, i * 6 + j, none⟩ = some u) ∧ RdS attrS 2 (fun b => b ≠ g) w va f[i].attrs ∧ RdS intS 1 (fun b => b ≠ g) w vk f[i].kids := by
  obtain ⟨xs, h1, h2⟩ := h
  obtain ⟨va, vk, e, r1, r2, _⟩ := h2 i hi
  have hne : ∀ b, (Value.slice (some ⟨g, 0, none⟩) f.length c).ownBlock ≠ some b → b < w.heap.size → b ≠ g := fun b hb _ e => hb (by rw [e]; rfl)
  refine ⟨_, va, vk, e, fun j u hj => ?_, r1.keep (fun _ _ _ => rfl) (Nat.le_refl _) hne, r2.keep (fun _ _ _ => rfl) (Nat.le_refl _) hne⟩
  rw [List.getElem?_take] at hj
  split at hj
  · rw [List.getElem?_drop] at hj
    have := h1.cells (g := g) rfl _ _ hj
    rwa [Addr.add_lit, Nat.zero_add] at this
  · cases hj
end
/-- The cells of a forest that is read. -/
theorem rd_cells {B : Nat} {w : World} {A : Option Addr} {n c : Nat} {f : Fo} (h : RdF B w (.slice A n c) f) (hB : B ≤ w.heap.size) (h0 : 0 < f.length) :
    ∃ (b o : Nat) (xs : List Value), A = some ⟨b, o, none⟩ ∧ b < B ∧ xs.length = f.length * 6 ∧ (∀ j u, xs[j]? = some u → w.cell? ⟨b, o + j, none⟩ = some u) ∧ ∀ i (hi : i < f.length), nodeS (fun b => b < B) w ((xs.drop (i * 6)).take 6) f[i] := by
  obtain ⟨b, o, cs0, hA, hlt, _, _, _⟩ := h.at_ (i := 0) h0
  have key : ∀ k, k ≤ f.length → ∃ xs : List Value, xs.length = k * 6 ∧ (∀ j u, xs[j]? = some u → w.cell? ⟨b, o + j, none⟩ = some u) ∧ ∀ i (hi : i < f.length), i < k → nodeS (fun b => b < B) w ((xs.drop (i * 6)).take 6) f[i] := by
    intro k
    induction k with
    | zero => exact fun _ => ⟨[], rfl, fun j u hj => by simp at hj, fun i hi h => absurd h (Nat.not_lt_zero _)⟩
    | succ k ih =>
      intro hk
      obtain ⟨xs, h1, h2, h3⟩ := ih (by omega)
      obtain ⟨b', o', cs, hA', _, hl, hc, hE⟩ := h.at_ (i := k) (by omega)
      rw [hA] at hA'
      injection hA' with hA'
      injection hA' with e1 e2 _
      subst e1 e2
      refine ⟨xs ++ cs, by rw [List.length_append]; omega, fun j u hj => ?_, fun i hi hik => ?_⟩
      · by_cases hjl : j < xs.length
        · rw [List.getElem?_append_left hjl] at hj
          exact h2 j u hj
        · rw [List.getElem?_append_right (by omega)] at hj
          have := hc _ u hj
          rwa [show o + k * 6 + (j - xs.length) = o + j by omega] at this
      · by_cases e : i < k
        · rw [List.drop_append_of_le_length (by omega), List.take_append_of_le_length (by rw [List.length_drop]; omega)]
          exact h3 i hi e
        · have : i = k := by omega
          subst this
          rw [List.drop_append, List.drop_eq_nil_of_le (by omega), List.nil_append, show i * 6 - xs.length = 0 by omega, List.drop_zero, List.take_of_length_le (by omega)]
          exact nodeS.of_rd hE hB
  obtain ⟨xs, h1, h2, h3⟩ := key f.length (Nat.le_refl _)
  exact ⟨b, o, xs, hA, hlt, h1, h2, fun i hi => h3 i hi hi⟩
end Go.Proofs.Ytbbompmpecblgaa.OwnF
