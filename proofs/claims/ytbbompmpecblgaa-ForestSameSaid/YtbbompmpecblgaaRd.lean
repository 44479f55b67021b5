/- Slices that read as lists, at any depth: general words. No program. -/
import Derived.Test.YtbbompmpecblgaaMem
import Derived.Deep.Slices
import Derived.Deep.Fields
namespace Go.Proofs.Ytbbompmpecblgaa.Rd
open Go Go.RowKit Go.Proofs.Ytbbompmpecblgaa.Seq Go.Proofs.Ytbbompmpecblgaa.Mem
set_option linter.unusedVariables false

/-- How the cells of an element read. B: all that is read lies in blocks below it. -/
abbrev Elem (α : Type) := Nat → World → List Value → α → Prop
/-- What was read is read so, whatever is new, or written above B. -/
def Elem.Keeps {α : Type} (E : Elem α) : Prop := ∀ (B B' : Nat) (w w' : World) (cs : List Value) (a : α), E B w cs a → Below B' w w' → B ≤ B' → E B' w' cs a
theorem add_block (a : Addr) (n : Nat) : (a.add n).block = a.block := by unfold Addr.add; split <;> rfl

/-- v is a slice of elements of sz cells that reads as l. -/
def RdL {α : Type} (E : Elem α) (sz : Nat) (B : Nat) (w : World) (v : Value) (l : List α) : Prop :=
  ∃ A c, v = .slice A l.length c ∧ l.length ≤ c ∧ c ≤ maxLen ∧ (0 < l.length → ∃ b o, A = some (⟨b, o, none⟩ : Addr) ∧ b < B ∧
    ∀ i (h : i < l.length), ∃ cs : List Value, cs.length = sz ∧ (∀ j u, cs[j]? = some u → w.cell? ⟨b, o + i * sz + j, none⟩ = some u) ∧ E B w cs l[i])

section
variable {α : Type} {E : Elem α} {sz B B' : Nat} {w w' : World} {v : Value} {l : List α}
theorem RdL.nil : RdL E sz B w (.slice none 0 0) [] := ⟨none, 0, rfl, Nat.le_refl _, by simp [maxLen], fun h => absurd h (by simp)⟩
theorem RdL.keep (hE : E.Keeps) (h : RdL E sz B w v l) (hb : Below B' w w') (hB : B ≤ B') : RdL E sz B' w' v l := by
  obtain ⟨A, c, hv, h1, h2, h3⟩ := h
  refine ⟨A, c, hv, h1, h2, fun h0 => ?_⟩
  obtain ⟨b, o, e, hlt, hc⟩ := h3 h0
  refine ⟨b, o, e, by omega, fun i hi => ?_⟩
  obtain ⟨cs, h4, h5, h6⟩ := hc i hi
  exact ⟨cs, h4, fun j u hj => (hb.cell (p := ⟨b, o + i * sz + j, none⟩) (by show b < B'; omega)).trans (h5 j u hj), hE _ _ _ _ _ _ h6 hb hB⟩
theorem RdL.below (hE : E.Keeps) (h : RdL E sz B w v l) (hb : Below w.heap.size w w') (hB : B ≤ w.heap.size) : RdL E sz w.heap.size w' v l := h.keep hE hb hB
theorem RdL.mono (hE : E.Keeps) (h : RdL E sz B w v l) (hB : B ≤ B') : RdL E sz B' w v l := h.keep hE (Below.refl _ _) hB
theorem RdL.len (h : RdL E sz B w v l) : l.length ≤ maxLen := by obtain ⟨A, c, _, h1, h2, _⟩ := h; omega
/-- The form of a slice. -/
theorem RdL.form (h : RdL E sz B w v l) : ∃ A c, v = .slice A l.length c ∧ l.length ≤ c ∧ c ≤ maxLen ∧ RdL E sz B w (.slice A l.length c) l := by
  obtain ⟨A, c, rfl, h1, h2, h3⟩ := h
  exact ⟨A, c, rfl, h1, h2, A, c, rfl, h1, h2, h3⟩
/-- An element. -/
theorem RdL.at_ {A : Option Addr} {n c : Nat} (h : RdL E sz B w (.slice A n c) l) {i : Nat} (hi : i < l.length) :
    ∃ (b o : Nat) (cs : List Value), A = some ⟨b, o, none⟩ ∧ b < B ∧ cs.length = sz ∧ (∀ j u, cs[j]? = some u → w.cell? ⟨b, o + i * sz + j, none⟩ = some u) ∧ E B w cs l[i] := by
  obtain ⟨A', c', hv, h1, h2, h3⟩ := h
  injection hv with e1 e2 e3
  subst e1
  obtain ⟨b, o, e, hlt, hc⟩ := h3 (by omega)
  obtain ⟨cs, h4, h5, h6⟩ := hc i hi
  exact ⟨b, o, cs, e, hlt, h4, h5, h6⟩
/-- A row of one's own. -/
theorem RdL.of_own {base : Nat} {e : TypeId} {n : Nat} {xs : List Value} (h : w.ownsRow base e sz v n xs) (hl : l.length = n) (hB : ∀ g, v.ownBlock = some g → g < B)
    (hE : ∀ i (hi : i < l.length), E B w ((xs.drop (i * sz)).take sz) l[i]) : RdL E sz B w v l := by
  have hx := h.1
  rcases h.2 with ⟨rfl, rfl⟩ | ⟨g, cap, cur, rfl, hb, hh, hc, hm, hcs, ht⟩
  · have : l = [] := List.eq_nil_of_length_eq_zero hl
    subst this
    exact RdL.nil
  · subst hl
    refine ⟨_, cap, rfl, hc, hm, fun h0 => ⟨_, _, rfl, hB g (by simp [Value.ownBlock]), fun i hi => ⟨(xs.drop (i * sz)).take sz, ?_, fun j u hj => ?_, hE i hi⟩⟩⟩
    · rw [List.length_take, List.length_drop, hx]
      have : (i + 1) * sz ≤ l.length * sz := Nat.mul_le_mul_right _ hi
      rw [Nat.add_mul] at this
      omega
    · rw [List.getElem?_take] at hj
      split at hj
      · rw [List.getElem?_drop] at hj
        have := h.cells (g := g) rfl _ _ hj
        rw [Addr.add_lit] at this
        rw [Nat.add_assoc]
        exact this
      · cases hj
end

/-! Elements of one cell. -/
def leaf {α : Type} (enc : α → Value) : Elem α := fun _ _ cs a => cs = [enc a]
theorem leaf_keeps {α : Type} (enc : α → Value) : (leaf enc).Keeps := fun _ _ _ _ _ _ h _ _ => h
def strE : Elem ByteArray := fun _ _ cs s => cs = [.string s] ∧ s.size ≤ maxLen
theorem strE_keeps : strE.Keeps := fun _ _ _ _ _ _ h _ _ => h
def intE (k : IntKind) : Elem Int := fun _ _ cs z => cs = [.int k z] ∧ (Lit.int k z).wf = true
theorem intE_keeps (k : IntKind) : (intE k).Keeps := fun _ _ _ _ _ _ h _ _ => h
theorem strE_at {B : Nat} {w : World} {A : Option Addr} {n c : Nat} {l : List ByteArray} (h : RdL strE 1 B w (.slice A n c) l) {i : Nat} (hi : i < l.length) :
    ∃ b o : Nat, A = some ⟨b, o, none⟩ ∧ b < B ∧ w.cell? ⟨b, o + i, none⟩ = some (.string l[i]) ∧ l[i].size ≤ maxLen := by
  obtain ⟨b, o, cs, e, hlt, hl, hc, rfl, hm⟩ := h.at_ hi
  refine ⟨b, o, e, hlt, ?_, hm⟩
  have := hc 0 _ rfl
  rwa [Nat.mul_one, Nat.add_zero] at this
theorem intE_at {B : Nat} {w : World} {k : IntKind} {A : Option Addr} {n c : Nat} {l : List Int} (h : RdL (intE k) 1 B w (.slice A n c) l) {i : Nat} (hi : i < l.length) :
    ∃ b o : Nat, A = some ⟨b, o, none⟩ ∧ b < B ∧ w.cell? ⟨b, o + i, none⟩ = some (.int k l[i]) ∧ (Lit.int k l[i]).wf = true := by
  obtain ⟨b, o, cs, e, hlt, hl, hc, rfl, hm⟩ := h.at_ hi
  refine ⟨b, o, e, hlt, ?_, hm⟩
  have := hc 0 _ rfl
  rwa [Nat.mul_one, Nat.add_zero] at this

/-! What an argument reads as. -/
section
variable {H : Type} {enc : TypeId × Value → H} {P : Program} {w : World} {base : Nat} {spare : Nat → Bool} {held : Bool} {α : Type} {E : Elem α}
/-- How an element is opened. -/
def Opens (enc : TypeId × Value → H) (P : Program) (w : World) (base : Nat) (spare : Nat → Bool) (held : Bool) (e : TypeId) (E : Elem α) : Prop :=
  ∀ (fuel : Nat) (cs : List Value) (x : DataW H × List MemPlace), DataW.trod enc P w base spare held fuel e cs = some x → ∃ a, E w.heap.size w cs a
theorem opens_string {e : TypeId} (he : P.underlying e = some .string) : Opens enc P w base spare held e strE := fun fuel cs x h => by
  obtain ⟨s, h1, _, h3⟩ := DataW.trod_string he h
  exact ⟨s, h1, h3⟩
theorem opens_int {e : TypeId} {k : IntKind} (he : P.underlying e = some (.int k)) : Opens enc P w base spare held e (intE k) := fun fuel cs x h => by
  obtain ⟨s, h1, _, h3⟩ := DataW.trod_int he h
  exact ⟨s, h1, h3⟩
theorem open_cells {t e : TypeId} {fuel : Nat} {cs : List Value} {x : DataW H × List MemPlace} (ht : P.underlying t = some (.slice e)) (hp : 0 < P.cellsOf e) (hE : Opens enc P w base spare held e E)
    (h : DataW.trod enc P w base spare held fuel t cs = some x) : ∃ (v : Value) (l : List α), cs = [v] ∧ RdL E (P.cellsOf e) w.heap.size w v l := by
  rcases Deep.open_slice ht h with ⟨rfl, _⟩ | ⟨a, len, cap, m, n, D, Pl, rfl, hb, hl, hm, hmm, rfl, hx⟩
  · exact ⟨_, [], rfl, RdL.nil⟩
  · have hlm : len ≤ m := by rw [hmm]; split <;> omega
    have key : ∀ k, k ≤ len → ∃ l : List α, l.length = k ∧ ∀ i (hi : i < l.length), ∃ cs : List Value, cs.length = P.cellsOf e ∧ (∀ j u, cs[j]? = some u → w.cell? (a.add (i * P.cellsOf e + j)) = some u) ∧ E w.heap.size w cs l[i] := by
      intro k
      induction k with
      | zero => exact fun _ => ⟨[], rfl, fun i hi => absurd hi (by simp)⟩
      | succ k ih =>
        intro hk
        obtain ⟨l, h1, h2⟩ := ih (by omega)
        obtain ⟨cs', h3, h4⟩ := hx k (by omega)
        obtain ⟨y, hy⟩ := hE _ _ _ h4
        obtain ⟨_, hcl, hat⟩ := World.cells?_some h3
        refine ⟨l ++ [y], by simp [h1], fun i hi => ?_⟩
        by_cases hil : i < l.length
        · obtain ⟨cs, g1, g2, g3⟩ := h2 i hil
          exact ⟨cs, g1, g2, by rw [List.getElem_append_left hil]; exact g3⟩
        · have : i = k := by simp at hi; omega
          subst this
          refine ⟨cs', hcl, fun j u hj => ?_, by rw [List.getElem_append_right (by omega)]; simp [h1]; exact hy⟩
          have hjl : j < P.cellsOf e := by have := (List.getElem?_eq_some_iff.1 hj).1; omega
          rw [← Deep.add_add, hat j hjl, hj]
    obtain ⟨l, rfl, h2⟩ := key len (Nat.le_refl _)
    refine ⟨_, l, rfl, _, cap, rfl, hl, hm, fun h0 => ?_⟩
    obtain ⟨cs', h3, _⟩ := hx 0 (by omega)
    have hblk := World.cells?_block h3 hp
    rw [add_block] at hblk
    obtain ⟨_, hcl, hat⟩ := World.cells?_some h3
    have h0c := hat 0 hp
    have hspot : a.spot = none := by
      have hv : cs'[0]? = some (cs'[0]'(by omega)) := List.getElem?_eq_getElem (by omega)
      rw [hv] at h0c
      simpa [Addr.add] using World.cell?_spot h0c
    obtain ⟨b, o, s⟩ := a
    simp only at hspot
    subst hspot
    refine ⟨b, o, rfl, hblk, fun i hi => ?_⟩
    obtain ⟨cs, g1, g2, g3⟩ := h2 i hi
    refine ⟨cs, g1, fun j u hj => ?_, g3⟩
    have := g2 j u hj
    rwa [Addr.add_lit, ← Nat.add_assoc] at this
/-- The cells of a slice that lies in an element. -/
theorem opens_slice {t e : TypeId} (sz : Nat) (ht : P.underlying t = some (.slice e)) (hc : P.cellsOf e = sz) (hp : 0 < sz) (hE : Opens enc P w base spare held e E) :
    Opens enc P w base spare held t (fun B w cs (l : List α) => ∃ v, cs = [v] ∧ RdL E sz B w v l) := fun fuel cs x h => by
  subst hc
  obtain ⟨v, l, h1, h2⟩ := open_cells ht hp hE h
  exact ⟨l, v, h1, h2⟩
theorem open_list {t e : TypeId} {r : Reach} {b0 : Nat} {v : Value} {d : DataW H} {p : List MemPlace} (sz : Nat) (ht : P.underlying t = some (.slice e)) (hc : P.cellsOf e = sz) (hp : 0 < sz) (hE : Opens enc P w base spare held e E)
    (hv : Value.okWide P w r b0 t v) (h : DataW.Trod enc P w base spare held t v d p) : ∃ l : List α, RdL E sz w.heap.size w v l := by
  obtain ⟨A, n, c, rfl⟩ := Go.WideShapes.okWide_slice ht hv
  obtain ⟨fuel, hf⟩ := h
  subst hc
  obtain ⟨v', l, h1, h2⟩ := open_cells ht hp hE hf
  simp [Value.cells] at h1
  subst h1
  exact ⟨l, h2⟩
end
end Go.Proofs.Ytbbompmpecblgaa.Rd
