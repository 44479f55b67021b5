/- A forest with another kind, or another parent, is none: the plain law. No program. -/
import Derived.Test.YtbbompmpecblgaaFOrd
namespace Go.Proofs.Ytbbompmpecblgaa.FS
set_option linter.unusedVariables false
theorem set_at {f : Fo} {i : Nat} (hi : i < f.length) (n : Nd) (j : Int) : at_ (f.set i n) j = if j = (i : Int) then n else at_ f j := by
  unfold at_
  by_cases h0 : 0 ≤ j
  · rw [if_pos h0, if_pos h0, List.getD_eq_getElem?_getD, List.getElem?_set]
    by_cases e : i = j.toNat
    · rw [if_pos e, if_pos (by omega), if_pos (by omega)]; rfl
    · rw [if_neg e, if_neg (by omega), ← List.getD_eq_getElem?_getD]
  · rw [if_neg h0, if_neg h0, if_neg (by omega)]
theorem may_kinds {f : Fo} (h : mayB f = true) {i : Nat} (hi : i < f.length) : plainB (at_ f i) = true ∧ ((at_ f i).kind = 0 ↔ i = 0) := by
  unfold mayB at h
  simp only [Bool.and_eq_true] at h
  have := List.all_eq_true.1 h.1.1.2 i (List.mem_range.2 hi)
  simp only [Bool.and_eq_true] at this
  exact ⟨this.1, by simpa using this.2⟩
theorem kind_not {f : Fo} {i : Nat} (hi : i < f.length) (n : Nd) (hk : n.kind < 0 ∨ 3 < n.kind ∨ ¬ (n.kind = 0 ↔ i = 0)) : mayB (f.set i n) = false := by
  rw [← Bool.not_eq_true]
  intro h
  obtain ⟨h1, h2⟩ := may_kinds h (i := i) (by rw [List.length_set]; exact hi)
  rw [set_at hi, if_pos rfl] at h1 h2
  rcases hk with hk | hk | hk
  · unfold plainB at h1
    rw [if_neg (by omega), if_neg (by omega), if_neg (by omega)] at h1
    cases h1
  · unfold plainB at h1
    rw [if_neg (by omega), if_neg (by omega), if_neg (by omega)] at h1
    cases h1
  · exact hk h2
theorem parent_is {f : Fo} (hm : mayB f = true) {i : Nat} (hi : i < f.length) (p : Int) : mayB (f.set i { at_ f i with parent := p }) = decide (p = (at_ f i).parent) := by
  by_cases e : p = (at_ f i).parent
  · subst e
    rw [decide_eq_true rfl]
    have : f.set i (at_ f (i : Int)) = f := by
      rw [atN hi]
      exact List.set_getElem_self hi
    exact (congrArg mayB this).trans hm
  · rw [decide_eq_false e, ← Bool.not_eq_true]
    intro hh
    obtain ⟨n, hn⟩ : ∃ n : Nd, n = { at_ f i with parent := p } := ⟨_, rfl⟩
    rw [← hn] at hh
    have hf := may_family hm
    have hg := may_family hh
    have hpar : ∀ j, (at_ (f.set i n) j).parent = if j = (i : Int) then p else (at_ f j).parent := fun j => by
      rw [set_at hi]; split
      · rw [hn]
      · rfl
    have hkid : ∀ j, (at_ (f.set i n) j).kids = (at_ f j).kids := fun j => by
      rw [set_at hi]; split
      · rename_i h; rw [hn, h]
      · rfl
    have hnode : ∀ j, isNode (f.set i n) j = isNode f j := fun j => by unfold isNode; rw [List.length_set]
    have hi1 : isNode f (i : Int) = true := (node_iff _ _).2 ⟨by omega, by omega⟩
    have hi2 : isNode (f.set i n) (i : Int) = true := by rw [hnode]; exact hi1
    have hp2 : (at_ (f.set i n) (i : Int)).parent = p := by rw [hpar, if_pos rfl]
    have hb := fam_parent hg hi2
    rw [hp2] at hb
    by_cases h0 : 0 ≤ p
    · have h1 := kid_of_parent hg hi2 (by rw [hp2]; exact h0)
      rw [hp2, hnode, hkid] at h1
      exact e (fam_kids hf h1.1 h1.2).2.symm
    · have h1 : 0 ≤ (at_ f (i : Int)).parent := by have := (fam_parent hf hi1).1; omega
      obtain ⟨h2, h3⟩ := kid_of_parent hf hi1 h1
      have h4 := (fam_kids hg (i := (at_ f (i : Int)).parent) (k := i) (by rw [hnode]; exact h2) (by rw [hkid]; exact h3)).2
      rw [hp2] at h4
      exact e h4
def newFo : Fo := [{ parent := -1 }]
theorem new_may : mayB newFo = true := by
  have hf : familyB newFo = true := by decide
  have hc : climbsP newFo := by
    intro i hi
    have h1 : i < 1 := hi
    obtain rfl : i = 0 := by omega
    exact ⟨1, by simp only [Up]; decide⟩
  unfold mayB
  rw [hf, climbs_true hc]
  decide
end Go.Proofs.Ytbbompmpecblgaa.FS
