/- Forests: plain functions on lists. No program. -/
import Derived.Test.YtbbompmpecblgaaWSpec
namespace Go.Proofs.Ytbbompmpecblgaa.FS
open Go.Proofs.Ytbbompmpecblgaa.WS
set_option linter.unusedVariables false

structure Av where
  name : ByteArray
  value : ByteArray
deriving DecidableEq, Inhabited
structure Nd where
  kind : Int := 0
  name : ByteArray := ⟨#[]⟩
  text : ByteArray := ⟨#[]⟩
  attrs : List Av := []
  parent : Int := 0
  kids : List Int := []
deriving DecidableEq, Inhabited
abbrev Fo := List Nd

/-- May an element have these? -/
def attrsB (l : List Av) : Bool := l.all (fun a => nameB a.name.data.toList && textB a.value.data.toList) && decide ((l.map (·.name.data.toList)).Nodup) && decide (l.length ≤ 8)
/-- Has a node just what its kind has? -/
def plainB (n : Nd) : Bool :=
  if n.kind = 0 then decide (n.name.size = 0) && decide (n.text.size = 0) && decide (n.attrs = [])
  else if n.kind = 1 then nameB n.name.data.toList && decide (n.text.size = 0) && attrsB n.attrs
  else if n.kind = 2 ∨ n.kind = 3 then decide (n.name.size = 0) && textB n.text.data.toList && decide (n.attrs = []) && decide (n.kids = [])
  else false
/-- The node of a number; what is none is a node all the same. -/
def at_ (f : Fo) (i : Int) : Nd := if 0 ≤ i then f.getD i.toNat {} else {}
def isNode (f : Fo) (i : Int) : Bool := decide (0 ≤ i) && decide (i < f.length)
/-- How many of l are x. -/
def elems (f : Fo) (l : List Int) : Nat := l.countP (fun k => (at_ f k).kind == 1)
/-- Do the kids of node id know it, and are they such that it may have? -/
def kidsB (f : Fo) (id : Nat) (n : Nd) : Bool :=
  n.kids.all (fun k => isNode f k && decide ((at_ f k).parent = id)) && (decide (id ≠ 0) || (n.kids.all (fun k => (at_ f k).kind != 2) && decide (elems f n.kids ≤ 1)))
/-- How often is i a kid of nodes? -/
def known (f : Fo) (i : Int) : Nat := (f.map (fun n => n.kids.count i)).sum
def parentB (f : Fo) (id : Nat) (n : Nd) : Bool := decide (-1 ≤ n.parent) && decide (n.parent < f.length) && (decide (n.parent < 0) || decide (known f id = 1))
def familyB (f : Fo) : Bool := (List.range f.length).all (fun id => kidsB f id (at_ f id)) && (List.range f.length).all (fun id => parentB f id (at_ f id))
/-- From i it is so many steps up to -1. -/
def Up (f : Fo) : Nat → Int → Prop
  | 0, i => i < 0
  | n + 1, i => 0 ≤ i ∧ Up f n (at_ f i).parent
/-- From i it is so many steps up to j. -/
def Reach (f : Fo) : Nat → Int → Int → Prop
  | 0, i, j => i = j
  | n + 1, i, j => 0 ≤ i ∧ Reach f n (at_ f i).parent j
theorem Up.unique {f : Fo} : ∀ {n m : Nat} {i : Int}, Up f n i → Up f m i → n = m
  | 0, 0, _, _, _ => rfl
  | 0, m + 1, i, h, k => by have := k.1; have : i < 0 := h; omega
  | n + 1, 0, i, h, k => by have := h.1; have : i < 0 := k; omega
  | n + 1, m + 1, i, h, k => by rw [Up.unique h.2 k.2]
theorem Up.reach {f : Fo} : ∀ {m n : Nat} {i j : Int}, Up f n i → Reach f m i j → m ≤ n ∧ Up f (n - m) j
  | 0, n, i, j, h, r => by cases r; exact ⟨Nat.zero_le _, h⟩
  | m + 1, 0, i, j, h, r => by have := r.1; have : i < 0 := h; omega
  | m + 1, n + 1, i, j, h, r => by
    obtain ⟨h1, h2⟩ := Up.reach h.2 r.2
    exact ⟨by omega, by rw [Nat.add_sub_add_right]; exact h2⟩
theorem Reach.snoc {f : Fo} : ∀ {m : Nat} {i j : Int}, Reach f m i j → 0 ≤ j → Reach f (m + 1) i (at_ f j).parent
  | 0, i, j, r, h => by cases r; exact ⟨h, rfl⟩
  | m + 1, i, j, r, h => ⟨r.1, Reach.snoc r.2 h⟩
theorem no_cycle {f : Fo} {m : Nat} {i : Int} (r : Reach f (m + 1) i i) : ¬ ∃ n, Up f n i := by
  rintro ⟨n, h⟩
  obtain ⟨h1, h2⟩ := h.reach r
  have := h.unique h2
  omega
def climbsP (f : Fo) : Prop := ∀ i : Nat, i < f.length → ∃ n, Up f n i
noncomputable def climbsB (f : Fo) : Bool := @decide (climbsP f) (Classical.propDecidable _)
theorem climbs_true {f : Fo} (h : climbsP f) : climbsB f = true := @decide_eq_true _ (Classical.propDecidable _) h
theorem climbs_false {f : Fo} (h : ¬ climbsP f) : climbsB f = false := @decide_eq_false _ (Classical.propDecidable _) h
theorem climbs_iff {f : Fo} : climbsB f = true ↔ climbsP f := ⟨fun h => @of_decide_eq_true _ (Classical.propDecidable _) h, climbs_true⟩
noncomputable def mayB (f : Fo) : Bool :=
  decide (1 ≤ f.length) && decide (f.length ≤ 60) && decide ((at_ f 0).parent = -1) && (List.range f.length).all (fun id => plainB (at_ f id) && (decide ((at_ f id).kind = 0) == decide (id = 0))) && familyB f && climbsB f
end Go.Proofs.Ytbbompmpecblgaa.FS
