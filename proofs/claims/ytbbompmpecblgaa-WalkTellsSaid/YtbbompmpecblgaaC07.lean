/- Joined by a program: AMay, FClimb, FClimbs, FPlain. -/
import Derived.Test.YtbbompmpecblgaaC06
import Derived.Test.YtbbompmpecblgaaC05
import Derived.Test.YtbbompmpecblgaaC04
section
/- Operations keep forests: plain. No program. -/
namespace Go.Proofs.Ytbbompmpecblgaa.FS
open Go.Proofs.Ytbbompmpecblgaa.WS
set_option linter.unusedVariables false

structure IsMay (f : Fo) : Prop where
  len : 1 ≤ f.length ∧ f.length ≤ 60
  root : (at_ f 0).parent = -1
  node : ∀ i : Nat, i < f.length → plainB (at_ f i) = true ∧ ((at_ f i).kind = 0 ↔ i = 0)
  kids : ∀ i : Nat, i < f.length → ∀ k ∈ (at_ f i).kids, isNode f k = true ∧ (at_ f k).parent = i
  doc : ∀ k ∈ (at_ f 0).kids, (at_ f k).kind ≠ 2
  one : elems f (at_ f 0).kids ≤ 1
  par : ∀ i : Nat, i < f.length → -1 ≤ (at_ f i).parent ∧ (at_ f i).parent < f.length ∧ (0 ≤ (at_ f i).parent → (at_ f (at_ f i).parent).kids.count (i : Int) = 1)
  climb : climbsP f
theorem nodeI {f : Fo} {i : Nat} (hi : i < f.length) : isNode f (i : Int) = true := (node_iff _ _).2 ⟨by omega, by omega⟩
theorem sum_zero : ∀ (l : List Nat), (∀ x ∈ l, x = 0) → l.sum = 0
  | [], _ => rfl
  | x :: l, h => by rw [List.sum_cons, h x (by simp), sum_zero l (fun y hy => h y (by simp [hy]))]
theorem sum_single : ∀ (l : List Nat) (p : Nat) (hp : p < l.length), (∀ j (hj : j < l.length), j ≠ p → l[j] = 0) → l.sum = l[p]
  | [], p, hp, _ => absurd hp (by simp)
  | x :: l, 0, hp, h => by
    rw [List.sum_cons, sum_zero l (fun y hy => by
      obtain ⟨j, hj, rfl⟩ := List.mem_iff_getElem.1 hy
      exact h (j + 1) (by simpa using hj) (by omega))]
    rfl
  | x :: l, p + 1, hp, h => by
    have hx : x = 0 := h 0 (by simp) (by omega)
    rw [List.sum_cons, hx, Nat.zero_add, sum_single l p (by simpa using hp) (fun j hj hne => h (j + 1) (by simpa using hj) (by omega))]
    rfl
theorem known_count {f : Fo} (hk : ∀ j : Nat, j < f.length → ∀ k ∈ (at_ f j).kids, (at_ f k).parent = j) {i : Int} {p : Nat} (hp : p < f.length) (he : (at_ f i).parent = p) : known f i = (at_ f p).kids.count i := by
  unfold known
  rw [sum_single _ p (by simpa using hp) (fun j hj hne => by
    have hj' : j < f.length := by simpa using hj
    rw [List.getElem_map]
    refine List.count_eq_zero_of_not_mem (fun hm => ?_)
    have := hk j hj' i (by rw [atN hj']; exact hm)
    rw [he] at this
    omega), List.getElem_map, atN hp]
theorem may_is {f : Fo} (h : mayB f = true) : IsMay f := by
  have hfam := may_family h
  have hk : ∀ i : Nat, i < f.length → ∀ k ∈ (at_ f i).kids, isNode f k = true ∧ (at_ f k).parent = i := fun i hi k hk => fam_kids hfam (nodeI hi) hk
  have h0 : kidsB f 0 (at_ f 0) = true := by
    unfold familyB at hfam
    rw [Bool.and_eq_true, List.all_eq_true] at hfam
    exact hfam.1 0 (List.mem_range.2 (by have := may_len h; omega))
  unfold kidsB at h0
  simp only [ne_eq, not_true_eq_false, decide_false, Bool.false_or, Bool.and_eq_true, List.all_eq_true, decide_eq_true_eq, bne_iff_ne] at h0
  refine ⟨may_len h, may_root h, fun i hi => may_kinds h hi, hk, fun k hk => h0.2.1 k hk, h0.2.2, fun i hi => ?_, may_climbs h⟩
  obtain ⟨a, b, c⟩ := fam_parent hfam (nodeI hi)
  refine ⟨a, b, fun h1 => ?_⟩
  obtain ⟨p, hp⟩ : ∃ p : Nat, (at_ f (i : Int)).parent = p := ⟨(at_ f (i : Int)).parent.toNat, by omega⟩
  have := known_count (fun j hj k hk' => (hk j hj k hk').2) (p := p) (by omega) hp
  rw [hp, ← this]
  exact c h1
theorem is_may {f : Fo} (h : IsMay f) : mayB f = true := by
  have hfam : familyB f = true := by
    unfold familyB
    rw [Bool.and_eq_true, List.all_eq_true, List.all_eq_true]
    refine ⟨fun i hi => ?_, fun i hi => ?_⟩
    · have hi := List.mem_range.1 hi
      unfold kidsB
      rw [Bool.and_eq_true, List.all_eq_true]
      refine ⟨fun k hk => ?_, ?_⟩
      · obtain ⟨a, b⟩ := h.kids i hi k hk
        rw [Bool.and_eq_true]
        exact ⟨a, decide_eq_true b⟩
      · by_cases e : i = 0
        · subst e
          rw [Bool.or_eq_true]; right
          rw [Bool.and_eq_true, List.all_eq_true]
          exact ⟨fun k hk => by rw [bne_iff_ne]; exact h.doc k hk, decide_eq_true h.one⟩
        · rw [Bool.or_eq_true]; left; exact decide_eq_true e
    · have hi := List.mem_range.1 hi
      obtain ⟨a, b, c⟩ := h.par i hi
      unfold parentB
      rw [Bool.and_eq_true, Bool.and_eq_true, Bool.or_eq_true]
      refine ⟨⟨decide_eq_true a, decide_eq_true b⟩, ?_⟩
      by_cases h0 : 0 ≤ (at_ f i).parent
      · right
        apply decide_eq_true
        obtain ⟨p, hp⟩ : ∃ p : Nat, (at_ f (i : Int)).parent = p := ⟨(at_ f (i : Int)).parent.toNat, by omega⟩
        rw [known_count (fun j hj k hk' => (h.kids j hj k hk').2) (p := p) (by omega) hp, ← hp]
        exact c h0
      · left; exact decide_eq_true (by omega)
  unfold mayB
  rw [hfam, climbs_true h.climb]
  simp only [Bool.and_true, Bool.and_eq_true, decide_eq_true_eq, List.all_eq_true, List.mem_range]
  refine ⟨⟨h.len, h.root⟩, fun i hi => ⟨(h.node i hi).1, ?_⟩⟩
  have := (h.node i hi).2
  rw [beq_iff_eq, Bool.eq_iff_iff]
  simpa using this

/-! Climbing. -/
theorem up_avoid {f f' : Fo} {i : Int} (hp : ∀ j, j ≠ i → (at_ f' j).parent = (at_ f j).parent) : ∀ (n : Nat) (j : Int), Up f n j → (∀ m, ¬ Reach f m j i) → Up f' n j
  | 0, j, h, _ => h
  | n + 1, j, h, ha => by
    have hne : j ≠ i := fun e => ha 0 e
    refine ⟨h.1, ?_⟩
    rw [hp j hne]
    exact up_avoid hp n _ h.2 (fun m hm => ha (m + 1) ⟨h.1, hm⟩)
theorem up_move {f f' : Fo} {i : Int} (hp : ∀ j, j ≠ i → (at_ f' j).parent = (at_ f j).parent) (hu : ∃ n, Up f' n i) : ∀ (n : Nat) (j : Int), Up f n j → ∃ m, Up f' m j
  | 0, j, h => ⟨0, h⟩
  | n + 1, j, h => by
    by_cases e : j = i
    · rw [e]; exact hu
    · obtain ⟨m, hm⟩ := up_move hp hu n _ h.2
      exact ⟨m + 1, h.1, by rw [hp j e]; exact hm⟩
theorem up_same {f f' : Fo} (hp : ∀ j, (at_ f' j).parent = (at_ f j).parent) : ∀ (n : Nat) (j : Int), Up f n j → Up f' n j
  | 0, j, h => h
  | n + 1, j, h => ⟨h.1, by rw [hp j]; exact up_same hp n _ h.2⟩
theorem elems_congr {f f' : Fo} (l : List Int) (h : ∀ k ∈ l, (at_ f' k).kind = (at_ f k).kind) : elems f' l = elems f l := by
  unfold elems
  exact List.countP_congr (fun k hk => by rw [h k hk])

/-! What stays where it is. -/
theorem may_same {f f' : Fo} (h : IsMay f) (hl : f'.length = f.length) (hk : ∀ j, (at_ f' j).kind = (at_ f j).kind ∧ (at_ f' j).parent = (at_ f j).parent ∧ (at_ f' j).kids = (at_ f j).kids) (hp : ∀ i : Nat, i < f.length → plainB (at_ f' i) = true) : IsMay f' := by
  have hn : ∀ k, isNode f' k = isNode f k := fun k => by unfold isNode; rw [hl]
  refine ⟨by rw [hl]; exact h.len, by rw [(hk 0).2.1]; exact h.root, fun i hi => ⟨hp i (by omega), by rw [(hk i).1]; exact (h.node i (by omega)).2⟩, fun i hi k hm => ?_, fun k hm => ?_, ?_, fun i hi => ?_, fun i hi => ?_⟩
  · rw [(hk i).2.2] at hm
    rw [hn, (hk k).2.1]
    exact h.kids i (by omega) k hm
  · rw [(hk 0).2.2] at hm
    rw [(hk k).1]
    exact h.doc k hm
  · rw [elems_congr _ (fun k _ => (hk k).1), (hk 0).2.2]
    exact h.one
  · rw [(hk i).2.1, (hk _).2.2, hl]
    exact h.par i (by omega)
  · obtain ⟨n, hu⟩ := h.climb i (by omega)
    exact ⟨n, up_same (fun j => (hk j).2.1) n _ hu⟩
/-- A node more. -/
theorem at_snoc {f : Fo} (n : Nd) (j : Int) : at_ (f ++ [n]) j = if j = (f.length : Int) then n else at_ f j := by
  unfold at_
  by_cases h0 : 0 ≤ j
  · rw [if_pos h0, if_pos h0, List.getD_eq_getElem?_getD, List.getElem?_append]
    by_cases e : j = (f.length : Int)
    · rw [if_pos e, if_neg (by omega), show j.toNat - f.length = 0 by omega]; rfl
    · rw [if_neg e]
      by_cases hlt : j.toNat < f.length
      · rw [if_pos hlt, ← List.getD_eq_getElem?_getD]
      · rw [if_neg hlt, List.getD_eq_getElem?_getD, List.getElem?_eq_none (by simp; omega), List.getElem?_eq_none (by omega)]
  · rw [if_neg h0, if_neg h0, if_neg (by omega)]
theorem may_more {f : Fo} (h : IsMay f) (n : Nd) (hl : f.length < 60) (hp : plainB n = true) (hk : n.kind ≠ 0) (hpar : n.parent = -1) (hkids : n.kids = []) : IsMay (f ++ [n]) := by
  have h1 := h.len.1
  have hat : ∀ j, j ≠ (f.length : Int) → at_ (f ++ [n]) j = at_ f j := fun j hj => by rw [at_snoc, if_neg hj]
  have hlast : at_ (f ++ [n]) (f.length : Int) = n := by rw [at_snoc, if_pos rfl]
  have hne : ∀ i : Nat, i < f.length → ∀ k ∈ (at_ f i).kids, k ≠ (f.length : Int) := fun i hi k hm => by
    have := (node_iff _ _).1 (h.kids i hi k hm).1
    omega
  have h0 : at_ (f ++ [n]) 0 = at_ f 0 := hat 0 (by omega)
  have hup : ∀ (m : Nat) (j : Int), Up f m j → j < f.length → Up (f ++ [n]) m j := by
    intro m
    induction m with
    | zero => exact fun j h _ => h
    | succ m ih =>
      intro j hj hlt
      refine ⟨hj.1, ?_⟩
      rw [hat j (by omega)]
      refine ih _ hj.2 ?_
      obtain ⟨x, rfl⟩ : ∃ x : Nat, j = x := ⟨j.toNat, by have := hj.1; omega⟩
      exact (h.par x (by omega)).2.1
  refine ⟨by rw [List.length_append, List.length_singleton]; omega, by rw [h0]; exact h.root, fun i hi => ?_, fun i hi k hm => ?_, fun k hm => ?_, ?_, fun i hi => ?_, fun i hi => ?_⟩
  · rw [List.length_append, List.length_singleton] at hi
    by_cases e : i = f.length
    · subst e
      rw [hlast]
      exact ⟨hp, fun x => absurd x hk, fun x => by omega⟩
    · rw [hat i (by omega)]
      exact h.node i (by omega)
  · rw [List.length_append, List.length_singleton] at hi
    by_cases e : i = f.length
    · subst e
      rw [hlast, hkids] at hm
      cases hm
    · rw [hat i (by omega)] at hm
      have hx := h.kids i (by omega) k hm
      rw [hat k (hne i (by omega) k hm)]
      refine ⟨?_, hx.2⟩
      have := (node_iff _ _).1 hx.1
      refine (node_iff _ _).2 ⟨this.1, ?_⟩
      rw [List.length_append]; omega
  · rw [h0] at hm
    rw [hat k (hne 0 (by omega) k hm)]
    exact h.doc k hm
  · have := elems_congr (f := f) (f' := f ++ [n]) (at_ f 0).kids (fun k hm => by rw [hat k (hne 0 (by omega) k hm)])
    rw [h0, this]
    exact h.one
  · rw [List.length_append, List.length_singleton] at hi ⊢
    by_cases e : i = f.length
    · subst e
      rw [hlast, hpar]
      exact ⟨by omega, by omega, fun x => by omega⟩
    · rw [hat i (by omega)]
      obtain ⟨a, b, c⟩ := h.par i (by omega)
      refine ⟨a, by omega, fun x => ?_⟩
      rw [hat _ (by omega)]
      exact c x
  · rw [List.length_append, List.length_singleton] at hi
    by_cases e : i = f.length
    · subst e
      exact ⟨1, by omega, by rw [hlast, hpar]; show (-1 : Int) < 0; omega⟩
    · obtain ⟨m, hm⟩ := h.climb i (by omega)
      exact ⟨m, hup m _ hm (by omega)⟩
/-- A node is moved. -/
theorem may_moved {f f' : Fo} (h : IsMay f) (hl : f'.length = f.length) {i : Nat} (hi : i < f.length) (hi0 : i ≠ 0) (p' : Int) (hp' : -1 ≤ p') (hpar : ∀ j, (at_ f' j).parent = if j = (i : Int) then p' else (at_ f j).parent)
    (hkind : ∀ j, (at_ f' j).kind = (at_ f j).kind) (hplain : ∀ j : Nat, j < f.length → plainB (at_ f' j) = true) (hkids : ∀ j, j ≠ p' → (at_ f' j).kids = (at_ f j).kids.filter (· != (i : Int)))
    (hnew : 0 ≤ p' → p' < f.length ∧ (∃ a b, (at_ f p').kids.filter (· != (i : Int)) = a ++ b ∧ (at_ f' p').kids = a ++ (i : Int) :: b) ∧ ¬ belowP f i p')
    (hdoc : p' = 0 → (at_ f i).kind ≠ 2 ∧ elems f (at_ f' 0).kids ≤ 1) : IsMay f' := by
  have hn : ∀ k, isNode f' k = isNode f k := fun k => by unfold isNode; rw [hl]
  have hmem : ∀ (x k : Int), k ∈ (at_ f' x).kids → (k = (i : Int) ∧ x = p') ∨ (k ≠ (i : Int) ∧ k ∈ (at_ f x).kids) := by
    intro x k hk
    by_cases e : x = p'
    · by_cases h0 : 0 ≤ p'
      · obtain ⟨_, ⟨a, b, hab, hf'⟩, _⟩ := hnew h0
        rw [e, hf', List.mem_append, List.mem_cons] at hk
        by_cases ek : k = (i : Int)
        · exact .inl ⟨ek, e⟩
        · right
          have : k ∈ a ++ b := by
            rw [List.mem_append]
            rcases hk with h | h | h
            · exact .inl h
            · exact absurd h ek
            · exact .inr h
          rw [← hab] at this
          rw [e]
          exact ⟨ek, (List.mem_filter.1 this).1⟩
      · exfalso
        have : (at_ f' x) = {} := by unfold at_; rw [if_neg (by omega)]
        rw [this] at hk
        cases hk
    · rw [hkids x e] at hk
      obtain ⟨h1, h2⟩ := List.mem_filter.1 hk
      exact .inr ⟨by simpa using h2, h1⟩
  refine ⟨by rw [hl]; exact h.len, by rw [hpar, if_neg (by omega)]; exact h.root, fun j hj => ⟨hplain j (by omega), by rw [hkind]; exact (h.node j (by omega)).2⟩, fun x hx k hk => ?_, fun k hk => ?_, ?_, fun x hx => ?_, fun x hx => ?_⟩
  · rcases hmem x k hk with ⟨rfl, hp⟩ | ⟨hne, hm⟩
    · rw [hn, hpar, if_pos rfl]
      exact ⟨nodeI hi, hp.symm⟩
    · rw [hn, hpar, if_neg hne]
      exact h.kids x (by omega) k hm
  · rw [hkind]
    rcases hmem 0 k hk with ⟨rfl, hp⟩ | ⟨hne, hm⟩
    · exact (hdoc hp.symm).1
    · exact h.doc k hm
  · rw [elems_congr _ (fun k _ => hkind k)]
    by_cases e : p' = 0
    · exact (hdoc e).2
    · rw [hkids 0 (fun x => e x.symm)]
      exact Nat.le_trans (List.filter_sublist.countP_le) h.one
  · rw [hpar, hl]
    by_cases e : (x : Int) = (i : Int)
    · rw [if_pos e]
      refine ⟨hp', ?_, fun h0 => ?_⟩
      · by_cases h0 : 0 ≤ p'
        · exact (hnew h0).1
        · omega
      · obtain ⟨_, ⟨a, b, hab, hf'⟩, _⟩ := hnew h0
        rw [hf', e]
        have hni : (i : Int) ∉ a ++ b := by
          rw [← hab]
          intro hm
          have := (List.mem_filter.1 hm).2
          simp at this
        rw [List.mem_append] at hni
        rw [List.count_append, List.count_cons_self, List.count_eq_zero_of_not_mem (fun x => hni (.inl x)), List.count_eq_zero_of_not_mem (fun x => hni (.inr x))]
    · rw [if_neg e]
      obtain ⟨a1, b1, c1⟩ := h.par x (by omega)
      refine ⟨a1, b1, fun h0 => ?_⟩
      have hcf : ((at_ f (at_ f (x : Int)).parent).kids.filter (· != (i : Int))).count (x : Int) = 1 := by
        rw [List.count_filter (by simpa using e)]
        exact c1 h0
      by_cases ep : (at_ f (x : Int)).parent = p'
      · obtain ⟨_, ⟨a, b, hab, hf'⟩, _⟩ := hnew (by omega)
        rw [ep] at hcf ⊢
        rw [hf', List.count_append, List.count_cons_of_ne (fun y => e y.symm), ← List.count_append, ← hab]
        exact hcf
      · rw [hkids _ ep]
        exact hcf
  · obtain ⟨n, hu⟩ := h.climb x (by omega)
    refine up_move (i := (i : Int)) (fun j hj => by rw [hpar, if_neg hj]) ?_ n _ hu
    by_cases h0 : 0 ≤ p'
    · obtain ⟨h1, _, h3⟩ := hnew h0
      obtain ⟨p, rfl⟩ : ∃ p : Nat, p' = p := ⟨p'.toNat, by omega⟩
      obtain ⟨m, hm⟩ := h.climb p (by omega)
      refine ⟨m + 1, by omega, ?_⟩
      rw [hpar, if_pos rfl]
      exact up_avoid (i := (i : Int)) (fun j hj => by rw [hpar, if_neg hj]) m _ hm (fun k hk => h3 ⟨by omega, k, hk⟩)
    · exact ⟨1, by omega, by rw [hpar, if_pos rfl]; show p' < 0; omega⟩

/-! take, insert: what they come to, node by node. -/
theorem take_length (f : Fo) (i : Int) : (takeF f i).length = f.length := by
  unfold takeF
  simp only
  split <;> simp
theorem not_kid {f : Fo} (h : IsMay f) {i : Int} {j : Int} (hne : (at_ f i).parent ≠ j) : i ∉ (at_ f j).kids := fun hm => by
  by_cases hj : isNode f j = true
  · obtain ⟨n, rfl, hn⟩ := node_nat hj
    exact hne (h.kids n hn i hm).2
  · have : at_ f j = {} := by
      unfold at_
      split
      · rw [List.getD_eq_getElem?_getD, List.getElem?_eq_none (by
          rw [node_iff] at hj
          omega)]
        rfl
      · rfl
    rw [this] at hm
    cases hm
theorem filter_none {l : List Int} {i : Int} (h : i ∉ l) : l.filter (· != i) = l := by
  rw [List.filter_eq_self]
  intro a ha
  rw [bne_iff_ne]
  rintro rfl
  exact h ha
theorem take_at {f : Fo} (h : IsMay f) {i : Nat} (hi : i < f.length) (j : Int) : at_ (takeF f i) j = { at_ f j with parent := if j = (i : Int) then -1 else (at_ f j).parent, kids := (at_ f j).kids.filter (· != (i : Int)) } := by
  unfold takeF
  simp only [Int.toNat_natCast]
  by_cases hp : (at_ f (i : Int)).parent = -1
  · have hk : ∀ j, (i : Int) ∉ (at_ f j).kids := fun j hm => by
      by_cases e : j = -1
      · subst e
        have : at_ f (-1) = {} := rfl
        rw [this] at hm
        cases hm
      · exact not_kid h (by rw [hp]; exact fun x => e x.symm) hm
    rw [if_pos hp, set_at hi, filter_none (hk j)]
    by_cases e : j = (i : Int)
    · rw [if_pos e, if_pos e, e]
    · rw [if_neg e, if_neg e]
  · obtain ⟨a, b, c⟩ := h.par i hi
    obtain ⟨p, hpe⟩ : ∃ p : Nat, (at_ f (i : Int)).parent = p := ⟨(at_ f (i : Int)).parent.toNat, by omega⟩
    have hpl : p < f.length := by omega
    rw [if_neg hp, hpe, Int.toNat_natCast, set_at (by rw [List.length_set]; exact hi), set_at hpl, set_at hpl]
    by_cases e : j = (i : Int)
    · rw [if_pos e, if_pos e, e]
      by_cases e2 : (i : Int) = (p : Int)
      · rw [if_pos e2, ← e2]
      · rw [if_neg e2, filter_none (not_kid h (by rw [hpe]; exact fun x => e2 x.symm))]
    · rw [if_neg e, if_neg e]
      by_cases e2 : j = (p : Int)
      · rw [if_pos e2, e2]
      · rw [if_neg e2, filter_none (not_kid h (by rw [hpe]; exact fun x => e2 x.symm))]
theorem insert_length (f : Fo) (o : Opn) : (insertF f o).length = f.length := by
  unfold insertF
  simp [take_length]
theorem insert_at {f : Fo} (h : IsMay f) {o : Opn} {i t : Nat} (hoi : o.id = i) (hot : o.to = t) (hi : i < f.length) (ht : t < f.length) (j : Int) :
    at_ (insertF f o) j = { at_ f j with parent := if j = (i : Int) then (t : Int) else (at_ f j).parent, kids := if j = (t : Int) then insertL ((at_ f j).kids.filter (· != (i : Int))) o.at_.toNat i else (at_ f j).kids.filter (· != (i : Int)) } := by
  have hl := take_length f i
  unfold insertF
  simp only [hoi, hot, Int.toNat_natCast]
  rw [set_at (by rw [List.length_set, hl]; exact ht), set_at (by rw [hl]; exact hi), set_at (by rw [hl]; exact hi), take_at h hi, take_at h hi, take_at h hi]
  by_cases e : j = (t : Int)
  · by_cases e2 : j = (i : Int)
    · rw [if_pos e, if_pos e, if_pos e2, if_pos (e ▸ e2), ← e2, ← e]
    · rw [if_pos e, if_pos e, if_neg e2, if_neg (e ▸ e2), ← e]
      simp only [if_neg e2]
  · by_cases e2 : j = (i : Int)
    · rw [if_neg e, if_neg e, if_pos e2, if_pos e2, e2]
    · rw [if_neg e, if_neg e, if_neg e2, if_neg e2]
      simp only [if_neg e2]
/-! Each operation. -/
theorem first_zero : ∀ (l : List (Int × Bool)), (∀ c ∈ l, c.1 ≠ 0) → firstE l = 0 → ∀ c ∈ l, c.2 = true
  | [], _, _, c, hc => by cases hc
  | (e, b) :: l, hn, h, c, hc => by
    unfold firstE at h
    rw [List.find?_cons] at h
    cases b with
    | false => exact absurd h (hn (e, false) (by simp))
    | true =>
      simp only [Bool.not_true] at h
      rcases List.mem_cons.1 hc with rfl | hc
      · rfl
      · exact first_zero l (fun c hc => hn c (by simp [hc])) h c hc
theorem plain_kids {n n' : Nd} (h : plainB n = true) (h1 : n'.kind = n.kind) (h2 : n'.name = n.name) (h3 : n'.text = n.text) (h4 : n'.attrs = n.attrs) (h5 : n.kids = [] → n'.kids = []) : plainB n' = true := by
  unfold plainB at h ⊢
  rw [h1, h2, h3, h4]
  split
  · rw [if_pos (by assumption)] at h; exact h
  · rename_i e0
    rw [if_neg e0] at h
    split
    · rename_i e1
      rw [if_pos e1] at h; exact h
    · rename_i e1
      rw [if_neg e1] at h
      split
      · rename_i e2
        rw [if_pos e2] at h
        simp only [Bool.and_eq_true, decide_eq_true_eq] at h ⊢
        exact ⟨h.1, h5 h.2⟩
      · rename_i e2
        rw [if_neg e2] at h
        exact h
theorem plain_el {n n' : Nd} (h : plainB n = true) (hk : n.kind = 0 ∨ n.kind = 1) (h1 : n'.kind = n.kind) (h2 : n'.name = n.name) (h3 : n'.text = n.text) (h4 : n'.attrs = n.attrs) : plainB n' = true := by
  unfold plainB at h ⊢
  rw [h1, h2, h3, h4]
  rcases hk with e | e
  · rw [if_pos e] at h ⊢; exact h
  · rw [if_neg (by omega), if_pos e] at h ⊢; exact h
theorem take_may {f : Fo} (h : IsMay f) {i : Nat} (hi : i < f.length) (hi0 : i ≠ 0) : IsMay (takeF f i) := by
  have hat := take_at h hi
  refine may_moved h (take_length f i) hi hi0 (-1) (by omega) (fun j => by rw [hat]) (fun j => by rw [hat]) (fun j hj => ?_) (fun j _ => by rw [hat]) (fun x => by omega) (fun x => by omega)
  rw [hat]
  exact plain_kids (h.node j hj).1 rfl rfl rfl rfl (fun e => by simp [e])
theorem insert_may {f : Fo} (h : IsMay f) {o : Opn} {i t : Nat} (hoi : o.id = i) (hot : o.to = t) (hi : i < f.length) (ht : t < f.length) (hlie : liesB f o = true) (hb : ¬ belowP f i t) : IsMay (insertF f o) := by
  have hat := insert_at h hoi hot hi ht
  unfold liesB at hlie
  rw [hoi, hot] at hlie
  split at hlie
  · cases hlie
  rename_i hno
  have hi0 : i ≠ 0 := fun e => hno (.inl (by omega))
  have hkt : (at_ f (t : Int)).kind = 0 ∨ (at_ f (t : Int)).kind = 1 := by
    by_cases e : (at_ f (t : Int)).kind = 0
    · exact .inl e
    · by_cases e2 : (at_ f (t : Int)).kind = 1
      · exact .inr e2
      · exact absurd (.inr ⟨e, e2⟩) hno
  refine may_moved h (insert_length f o) hi hi0 t (by omega) (fun j => by rw [hat]) (fun j => by rw [hat]) (fun j hj => ?_) (fun j hne => by rw [hat]; simp only [if_neg hne]) (fun _ => ⟨by omega, ⟨_, _, (List.take_append_drop o.at_.toNat _).symm, by rw [hat]; simp only [if_true]; rfl⟩, hb⟩) (fun e0 => ?_)
  · rw [hat]
    by_cases e : (j : Int) = (t : Int)
    · rw [if_pos e]
      exact plain_el (h.node j hj).1 (by rw [e]; exact hkt) rfl rfl rfl rfl
    · rw [if_neg e]
      exact plain_kids (h.node j hj).1 rfl rfl rfl rfl (fun e => by simp [e])
  · have ht0 : t = 0 := by omega
    subst ht0
    have hk0 : (at_ (insertF f o) 0).kids = insertL ((at_ f 0).kids.filter (· != (i : Int))) o.at_.toNat i := by
      have := hat 0
      rw [this]
      simp
    have hel : elems f (insertL ((at_ f 0).kids.filter (· != (i : Int))) o.at_.toNat i) = elems f ((at_ f 0).kids.filter (· != (i : Int))) + if (at_ f (i : Int)).kind = 1 then 1 else 0 := by
      unfold insertL elems
      rw [List.countP_append, List.countP_cons]
      have : ((at_ f 0).kids.filter (· != (i : Int))).countP (fun k => (at_ f k).kind == 1) = (((at_ f 0).kids.filter (· != (i : Int))).take o.at_.toNat ++ ((at_ f 0).kids.filter (· != (i : Int))).drop o.at_.toNat).countP (fun k => (at_ f k).kind == 1) := by rw [List.take_append_drop]
      rw [this, List.countP_append]
      simp only [beq_iff_eq]
      omega
    rw [hk0, hel]
    have hle : elems f ((at_ f 0).kids.filter (· != (i : Int))) ≤ 1 := Nat.le_trans (List.filter_sublist.countP_le) h.one
    split at hlie
    · rename_i h3
      have h3 : (at_ f (i : Int)).kind = 3 := by
        rcases h3 with h | h
        · exact absurd rfl h
        · exact h
      rw [h3]
      exact ⟨by decide, by simpa using hle⟩
    · rw [Bool.and_eq_true, beq_iff_eq, Bool.not_eq_true', List.any_eq_false] at hlie
      obtain ⟨h1, h2⟩ := hlie
      rw [h1]
      refine ⟨by decide, ?_⟩
      have : elems f ((at_ f 0).kids.filter (· != (i : Int))) = 0 := by
        unfold elems
        rw [List.countP_eq_zero]
        intro k hk
        obtain ⟨a, b⟩ := List.mem_filter.1 hk
        have := h2 k a
        rw [b] at this
        simpa using this
      rw [this]
      simp
theorem findA_some {l : List Av} {s : ByteArray} {i : Nat} (h : findA l s = some i) : ∃ hi : i < l.length, l[i].name = s := by
  unfold findA at h
  rw [List.findIdx?_eq_some_iff_getElem] at h
  obtain ⟨hi, h1, _⟩ := h
  exact ⟨hi, of_decide_eq_true h1⟩
theorem findA_none {l : List Av} {s : ByteArray} (h : findA l s = none) : ∀ a ∈ l, a.name ≠ s := by
  unfold findA at h
  rw [List.findIdx?_eq_none_iff] at h
  exact fun a ha => of_decide_eq_false (h a ha)
theorem attrsB_iff (l : List Av) : attrsB l = true ↔ (∀ a ∈ l, nameB a.name.data.toList = true ∧ textB a.value.data.toList = true) ∧ (l.map (·.name.data.toList)).Nodup ∧ l.length ≤ 8 := by
  unfold attrsB
  rw [Bool.and_eq_true, Bool.and_eq_true, List.all_eq_true, decide_eq_true_eq, decide_eq_true_eq]
  constructor
  · rintro ⟨⟨h1, h2⟩, h3⟩
    exact ⟨fun a ha => by have := h1 a ha; rwa [Bool.and_eq_true] at this, h2, h3⟩
  · rintro ⟨h1, h2, h3⟩
    exact ⟨⟨fun a ha => by rw [Bool.and_eq_true]; exact h1 a ha, h2⟩, h3⟩
theorem setA_ok {l : List Av} {n t : ByteArray} (h : attrsB l = true) (hn : nameB n.data.toList = true) (ht : textB t.data.toList = true) (hr : (findA l n).isSome = true ∨ l.length < 8) : attrsB (setA l n t) = true := by
  rw [attrsB_iff] at h ⊢
  obtain ⟨h1, h2, h3⟩ := h
  unfold setA
  cases hf : findA l n with
  | some i =>
    obtain ⟨hi, he⟩ := findA_some hf
    refine ⟨fun a ha => ?_, ?_, by rw [List.length_set]; exact h3⟩
    · rcases List.mem_or_eq_of_mem_set ha with h | rfl
      · exact h1 a h
      · exact ⟨hn, ht⟩
    · have : (l.set i ⟨n, t⟩).map (·.name.data.toList) = l.map (·.name.data.toList) := by
        rw [List.map_set]
        have : n.data.toList = (l.map (·.name.data.toList))[i]'(by simpa using hi) := by rw [List.getElem_map, he]
        simp only
        rw [this]
        exact List.set_getElem_self _
      rw [this]
      exact h2
  | none =>
    have hne := findA_none hf
    refine ⟨fun a ha => ?_, ?_, ?_⟩
    · rcases List.mem_append.1 ha with h | h
      · exact h1 a h
      · rw [List.mem_singleton.1 h]; exact ⟨hn, ht⟩
    · rw [List.map_append, List.nodup_append]
      refine ⟨h2, by simp, fun a ha b hb e => ?_⟩
      subst e
      obtain ⟨x, hx, hxa⟩ := List.mem_map.1 ha
      simp at hb
      refine hne x hx ?_
      rw [hb] at hxa
      cases hx1 : x.name
      cases hx2 : n
      simp only [hx1, hx2] at hxa
      congr 1
      exact Array.toList_inj.1 hxa
    · rw [List.length_append, List.length_singleton]
      rcases hr with h | h
      · rw [hf] at h; cases h
      · omega
theorem delA_ok {l : List Av} {n : ByteArray} (h : attrsB l = true) : attrsB (delA l n) = true := by
  rw [attrsB_iff] at h ⊢
  obtain ⟨h1, h2, h3⟩ := h
  unfold delA
  cases hf : findA l n with
  | some i =>
    have hs := List.eraseIdx_sublist l i
    exact ⟨fun a ha => h1 a (hs.subset ha), h2.sublist (hs.map _), Nat.le_trans hs.length_le h3⟩
  | none => exact ⟨h1, h2, h3⟩
theorem set_may {f : Fo} (h : IsMay f) {i : Nat} (hi : i < f.length) (n : Nd) (h1 : n.kind = (at_ f i).kind) (h2 : n.parent = (at_ f i).parent) (h3 : n.kids = (at_ f i).kids) (hp : plainB n = true) : IsMay (f.set i n) := by
  refine may_same h (List.length_set) (fun j => ?_) (fun j hj => ?_)
  · rw [set_at hi]
    split
    · rename_i e; rw [e]; exact ⟨h1, h2, h3⟩
    · exact ⟨rfl, rfl, rfl⟩
  · rw [set_at hi]
    split
    · exact hp
    · exact (h.node j hj).1
theorem checks_ne (f : Fo) (o : Opn) : ∀ c ∈ checks f o, c.1 ≠ 0 := by
  unfold checks
  repeat' split
  all_goals simp
theorem one_kinds {f : Fo} {o : Opn} (he : oneE f o = 0) : mayO o = true ∧ (∀ c ∈ checks f o, c.2 = true) := by
  unfold oneE at he
  split at he
  · exact ⟨by assumption, first_zero _ (checks_ne f o) he⟩
  · cases he
theorem mayO_kind {o : Opn} (h : mayO o = true) : (1 ≤ o.kind ∧ o.kind ≤ 8) ∧ o.name.size ≤ 255 ∧ o.text.size ≤ 255 ∧ (shapeA o.kind = true ∨ o.name.size = 0) ∧ (shapeT o.kind = true ∨ o.text.size = 0) := by
  unfold mayO at h
  simp only [Bool.and_eq_true, Bool.or_eq_true, decide_eq_true_eq] at h
  exact ⟨h.1.1.1.1.1.1.1, h.1.1.1.1.1.1.2, h.1.1.1.1.1.2, h.1.2, h.2⟩
theorem one_may {f : Fo} (hm : mayB f = true) (o : Opn) : mayB (oneF f o) = true := by
  unfold oneF
  split
  case isFalse => exact hm
  case isTrue he =>
  obtain ⟨hmo, hch⟩ := one_kinds he
  obtain ⟨⟨hk1, hk8⟩, hn, ht, hsa, hst⟩ := mayO_kind hmo
  have h := may_is hm
  refine is_may ?_
  unfold doF
  unfold checks at hch
  by_cases k3 : o.kind ≤ 3
  · rw [if_pos k3]
    unfold freshF
    by_cases k1 : o.kind = 1
    · rw [if_pos k1] at hch
      have hnm := hch (74, namedB o) (by simp)
      have hrm := hch (2, roomB f) (by simp)
      unfold namedB at hnm
      unfold roomB at hrm
      simp only [Bool.and_eq_true, decide_eq_true_eq] at hnm hrm
      have ht0 : o.text.size = 0 := by
        rcases hst with h | h
        · rw [k1] at h; cases h
        · exact h
      refine may_more h _ hrm ?_ (by show o.kind ≠ 0; omega) rfl rfl
      unfold plainB
      rw [if_neg (by show ¬ o.kind = 0; omega), if_pos k1]
      simp only [Bool.and_eq_true, decide_eq_true_eq]
      exact ⟨⟨hnm.1, ht0⟩, by decide⟩
    · have k23 : o.kind = 2 ∨ o.kind = 3 := by omega
      rw [if_neg k1, if_pos k23] at hch
      have hnm := hch (74, textedB o) (by simp)
      have hrm := hch (2, roomB f) (by simp)
      unfold textedB at hnm
      unfold roomB at hrm
      simp only [decide_eq_true_eq] at hnm hrm
      have hn0 : o.name.size = 0 := by
        rcases hsa with h | h
        · rcases k23 with e | e <;> rw [e] at h <;> cases h
        · exact h
      refine may_more h _ hrm ?_ (by show o.kind ≠ 0; omega) rfl rfl
      unfold plainB
      rw [if_neg (by show ¬ o.kind = 0; omega), if_neg k1, if_pos k23]
      simp only [Bool.and_eq_true, decide_eq_true_eq]
      exact ⟨⟨⟨hn0, hnm⟩, trivial⟩, trivial⟩
  rw [if_neg k3]
  rw [if_neg (by omega), if_neg (by omega)] at hch
  by_cases k4 : o.kind = 4
  · rw [if_pos k4] at hch ⊢
    have c1 := hch (70, knownB f o) (by simp)
    have c2 := hch (70, isNode f o.to) (by simp)
    have c3 := hch (71, liesB f o) (by simp)
    have c4 := hch (72, !belowB f o.id o.to) (by simp)
    obtain ⟨i, hoi, hi⟩ := node_nat (k := o.id) c1
    obtain ⟨t, hot, ht'⟩ := node_nat (k := o.to) c2
    refine insert_may h hoi hot hi ht' c3 (fun hb => ?_)
    rw [← hoi, ← hot] at hb
    rw [(below_iff hm c2).2 hb] at c4
    cases c4
  rw [if_neg k4] at hch ⊢
  by_cases k5 : o.kind = 5
  · rw [if_pos k5] at hch ⊢
    have c1 := hch (70, knownB f o) (by simp)
    have c2 := hch (71, o.id != 0) (by simp)
    obtain ⟨i, hoi, hi⟩ := node_nat (k := o.id) c1
    rw [bne_iff_ne] at c2
    rw [hoi] at c2 ⊢
    exact take_may h hi (by omega)
  rw [if_neg k5] at hch ⊢
  by_cases k6 : o.kind = 6
  · rw [if_pos k6] at hch ⊢
    have c1 := hch (70, knownB f o) (by simp)
    have c2 := hch (71, elemB f o) (by simp)
    have c3 := hch (74, namedB o) (by simp)
    have c4 := hch (75, hasA f o || decide ((at_ f o.id).attrs.length < 8)) (by simp)
    obtain ⟨i, hoi, hi⟩ := node_nat (k := o.id) c1
    unfold elemB at c2
    unfold namedB at c3
    unfold hasA at c4
    rw [beq_iff_eq] at c2
    rw [Bool.and_eq_true] at c3
    rw [Bool.or_eq_true, decide_eq_true_eq] at c4
    have hpl := (h.node i hi).1
    rw [hoi] at c2 c4 ⊢
    rw [Int.toNat_natCast]
    refine set_may h hi _ rfl rfl rfl ?_
    unfold plainB at hpl ⊢
    rw [if_neg (by rw [c2]; decide), if_pos c2] at hpl ⊢
    simp only [Bool.and_eq_true, decide_eq_true_eq] at hpl ⊢
    exact ⟨hpl.1, setA_ok hpl.2 c3.1 c3.2 c4⟩
  rw [if_neg k6] at hch ⊢
  by_cases k7 : o.kind = 7
  · rw [if_pos k7] at hch ⊢
    have c1 := hch (70, knownB f o) (by simp)
    have c2 := hch (71, elemB f o) (by simp)
    obtain ⟨i, hoi, hi⟩ := node_nat (k := o.id) c1
    unfold elemB at c2
    rw [beq_iff_eq] at c2
    have hpl := (h.node i hi).1
    rw [hoi] at c2 ⊢
    rw [Int.toNat_natCast]
    refine set_may h hi _ rfl rfl rfl ?_
    unfold plainB at hpl ⊢
    rw [if_neg (by rw [c2]; decide), if_pos c2] at hpl ⊢
    simp only [Bool.and_eq_true, decide_eq_true_eq] at hpl ⊢
    exact ⟨hpl.1, delA_ok hpl.2⟩
  rw [if_neg k7] at hch ⊢
  have c1 := hch (70, knownB f o) (by simp)
  have c2 := hch (71, (at_ f o.id).kind == 2 || (at_ f o.id).kind == 3) (by simp)
  have c3 := hch (74, textedB o) (by simp)
  obtain ⟨i, hoi, hi⟩ := node_nat (k := o.id) c1
  unfold textedB at c3
  rw [Bool.or_eq_true, beq_iff_eq, beq_iff_eq] at c2
  have hpl := (h.node i hi).1
  rw [hoi] at c2 ⊢
  rw [Int.toNat_natCast]
  refine set_may h hi _ rfl rfl rfl ?_
  unfold plainB at hpl ⊢
  have n0 : ¬ (at_ f (i : Int)).kind = 0 := by omega
  have n1 : ¬ (at_ f (i : Int)).kind = 1 := by omega
  rw [if_neg n0, if_neg n1, if_pos c2] at hpl ⊢
  simp only [Bool.and_eq_true, decide_eq_true_eq] at hpl ⊢
  exact ⟨⟨⟨hpl.1.1.1, c3⟩, hpl.1.2⟩, hpl.2⟩
end Go.Proofs.Ytbbompmpecblgaa.FS
end
section
/- forest.climbs. -/
namespace Go.Proofs.Ytbbompmpecblgaa.FClimb
open Go Go.RowKit Go.Proofs.Ytbbompmpecblgaa.Seq Go.Proofs.Ytbbompmpecblgaa.WS Go.Proofs.Ytbbompmpecblgaa.FS Go.Proofs.Ytbbompmpecblgaa.WordIt Go.Proofs.Ytbbompmpecblgaa.Mem Go.Proofs.Ytbbompmpecblgaa.Rd Go.Proofs.Ytbbompmpecblgaa.Word Go.Proofs.Ytbbompmpecblgaa.WordHas Go.Proofs.Ytbbompmpecblgaa.Shapes Go.Proofs.Ytbbompmpecblgaa.FFam
set_option linter.unusedVariables false
set_option linter.unusedSimpArgs false

def dRow (n : Nat) (d : Nat → Int) : List Value := (List.range n).map (fun i => Value.int .i64 (d i))
theorem dRow_length (n : Nat) (d : Nat → Int) : (dRow n d).length = n := by simp [dRow]
theorem dRow_get {n : Nat} {d : Nat → Int} {i : Nat} (hi : i < n) : (dRow n d)[i]? = some (Value.int .i64 (d i)) := by simp [dRow, hi]
def upd (d : Nat → Int) (i : Nat) (x : Int) : Nat → Int := fun j => if j = i then x else d j
theorem dRow_set {n : Nat} {d : Nat → Int} {i : Nat} (hi : i < n) (x : Int) : (dRow n d).set i (Value.int .i64 x) = dRow n (upd d i x) := by
  apply List.ext_getElem?
  intro j
  rw [List.getElem?_set]
  by_cases hj : i = j
  · subst hj
    rw [if_pos rfl, if_pos (by rw [dRow_length]; exact hi), dRow_get hi]
    simp [upd]
  · rw [if_neg hj]
    by_cases hjn : j < n
    · rw [dRow_get hjn, dRow_get hjn, upd, if_neg (fun e => hj e.symm)]
    · rw [List.getElem?_eq_none (by rw [dRow_length]; omega), List.getElem?_eq_none (by rw [dRow_length]; omega)]
def zeros (n : Nat) (d : Nat → Int) : Nat := (List.range n).countP (fun j => d j == 0)
theorem zeros_upd {n : Nat} {d : Nat → Int} {i : Nat} (hi : i < n) (h : d i = 0) {x : Int} (hx : x ≠ 0) : zeros n (upd d i x) + 1 = zeros n d := by
  unfold zeros
  induction n with
  | zero => omega
  | succ n ih =>
    rw [List.range_succ, List.countP_append, List.countP_append, List.countP_singleton, List.countP_singleton]
    by_cases e : i = n
    · subst e
      have : (List.range i).countP (fun j => upd d i x j == 0) = (List.range i).countP (fun j => d j == 0) := by
        apply List.countP_congr
        intro j hj
        rw [List.mem_range] at hj
        rw [upd, if_neg (by omega)]
      rw [this]
      simp [upd, h, hx]
    · have := ih (by omega)
      have e2 : upd d i x n = d n := by rw [upd, if_neg (fun h => e h.symm)]
      rw [e2]
      omega

/-- What lies in memory while nodes climb. -/
structure CInv (f : Fo) (bd bc bf g base B c : Nat) (A : Option Addr) (d : Nat → Int) (w : World) : Prop where
  vd : w.heap[bd]? = some (.cells #[.slice (some ⟨g, 0, none⟩) f.length f.length] 40 (0, 0))
  vc : w.heap[bc]? = some (.cells #[.func (.func 88) #[] #[.pointer (some ⟨bd, 0, none⟩), .pointer (some ⟨bc, 0, none⟩), .pointer (some ⟨bf, 0, none⟩)]] 117 (0, 0))
  vf : w.heap[bf]? = some (.cells #[.slice A f.length c] 33 (0, 0))
  row : w.ownsRow base 3 1 (.slice (some ⟨g, 0, none⟩) f.length f.length) f.length (dRow f.length d)
  rd : RdF B w (.slice A f.length c) f
  nd : bd ≠ g
  nc : bc ≠ g
  nf : bf ≠ g
  hB : B ≤ g
theorem CInv.keep {f : Fo} {bd bc bf g base B c : Nat} {A : Option Addr} {d : Nat → Int} {w w' : World} (h : CInv f bd bc bf g base B c A d w) (ho : Off (fun b => b = g) w w') {d' : Nat → Int}
    (hr : w'.ownsRow base 3 1 (.slice (some ⟨g, 0, none⟩) f.length f.length) f.length (dRow f.length d')) : CInv f bd bc bf g base B c A d' w' := by
  have hg := (h.row.lt g rfl).2
  exact ⟨ho.keep h.vd h.nd, ho.keep h.vc h.nc, ho.keep h.vf h.nf, hr, h.rd.keep nodeE_keeps (ho.toBelow (Nat.le_trans h.hB (Nat.le_of_lt hg)) (fun b hb => by rw [hb]; exact h.hB)) (Nat.le_refl _), h.nd, h.nc, h.nf, h.hB⟩
theorem CInv.set {f : Fo} {bd bc bf g base B c : Nat} {A : Option Addr} {d : Nat → Int} {w : World} (h : CInv f bd bc bf g base B c A d w) {i : Nat} (hi : i < f.length) (x : Int) :
    CInv f bd bc bf g base B c A (upd d i x) (w.setCell ⟨g, i, none⟩ (.int .i64 x)) := by
  refine h.keep (Off.setCell _ _ _ rfl) ?_
  have := (h.row.stored i (.int .i64 x)).1
  rwa [dRow_set hi] at this
theorem CInv.drewN {f : Fo} {bd bc bf g base B c : Nat} {A : Option Addr} {d : Nat → Int} {w : World} (h : CInv f bd bc bf g base B c A d w) (n : Nat) : CInv f bd bc bf g base B c A d (w.drewN n) :=
  h.keep (Off.drewN _ _ _) (own_keep h.row (fun g hg => rfl))

theorem CInv.drew {f : Fo} {bd bc bf g base B c : Nat} {A : Option Addr} {d : Nat → Int} {w : World} (h : CInv f bd bc bf g base B c A d w) : CInv f bd bc bf g base B c A d w.drew :=
  h.keep (Off.drew _ _) (own_keep h.row (fun g hg => rfl))

/-- What a climb answers. -/
def ClimbPost (f : Fo) (bd bc bf g base B c : Nat) (A : Option Addr) (d : Nat → Int) (i : Int) (w : World) (e : Ending) (w' : World) : Prop :=
  ∃ r d', e = .returned (.bool r) ∧ CInv f bd bc bf g base B c A d' w' ∧ Off (fun b => b = g) w w' ∧
    (r = true → (∃ m, Up f m i) ∧ (∀ j, j < f.length → 0 < d' j → ∃ m, Up f m j) ∧ (∀ j, j < f.length → (d' j < 0 ↔ d j < 0)) ∧ zeros f.length d' ≤ zeros f.length d) ∧
    (r = false → ¬ ∃ m, Up f m i)
theorem zeros_mono {n : Nat} {d : Nat → Int} {i : Nat} {x : Int} (hx : x ≠ 0) : zeros n (upd d i x) ≤ zeros n d := by
  unfold zeros
  apply List.countP_mono_left
  intro j _ h
  unfold upd at h
  by_cases e : j = i
  · rw [if_pos e] at h; simp at h; exact absurd h hx
  · rwa [if_neg e] at h
theorem ClimbPost.back {f : Fo} {bd bc bf g base B c : Nat} {A : Option Addr} {d d' : Nat → Int} {x : Nat} {w w1 w5 : World} {r : Bool} (hx : x < f.length) (h0 : d x = 0) (hI : CInv f bd bc bf g base B c A d' w5) (h1 : Off (fun b => b = g) w w1) (ho : Off (fun b => b = g) w1 w5)
    (ht : r = true → (∃ m, Up f m (at_ f x).parent) ∧ (∀ j, j < f.length → 0 < d' j → ∃ m, Up f m j) ∧ (∀ j, j < f.length → (d' j < 0 ↔ upd d x (-1) j < 0)) ∧ zeros f.length d' ≤ zeros f.length (upd d x (-1)))
    (hf : r = false → ¬ ∃ m, Up f m (at_ f x).parent) : ClimbPost f bd bc bf g base B c A d x w (.returned (.bool r)) (w5.setCell ⟨g, x, none⟩ (.int .i64 1)) := by
  refine ⟨r, upd d' x 1, rfl, hI.set hx 1, (h1.trans ho).trans (Off.setCell _ _ _ rfl), fun h => ?_, fun h => ?_⟩
  · obtain ⟨⟨m, hm⟩, h2, h3, h4⟩ := ht h
    have hup : ∃ m, Up f m (x : Int) := ⟨m + 1, by omega, hm⟩
    refine ⟨hup, fun j hj hd => ?_, fun j hj => ?_, ?_⟩
    · by_cases e : j = x
      · subst e; exact hup
      · rw [upd, if_neg e] at hd; exact h2 j hj hd
    · by_cases e : j = x
      · subst e; simp [upd, h0]
      · rw [upd, if_neg e, h3 j hj, upd, if_neg e]
    · have := zeros_upd hx h0 (x := -1) (by decide)
      have := zeros_mono (n := f.length) (d := d') (i := x) (x := 1) (by decide)
      omega
  · rintro ⟨m, hm⟩
    cases m with
    | zero => have : (x : Int) < 0 := hm; omega
    | succ m => exact hf h ⟨m, hm.2⟩

set_option maxRecDepth 100000 in
set_option maxHeartbeats 4000000 in
theorem climb_calls (f : Fo) (hn : f.length ≤ 60) (hp : ∀ i : Nat, i < f.length → -1 ≤ (at_ f i).parent ∧ (at_ f i).parent < f.length) (bd bc bf g base B c : Nat) (A : Option Addr) (hc : f.length ≤ c) (hc2 : c ≤ 9223372036854775807) (k : Nat) :
    ∀ (i : Int) (d : Nat → Int) (w : World), zeros f.length d ≤ k → -1 ≤ i → i < f.length → CInv f bd bc bf g base B c A d w →
      (∀ j, j < f.length → 0 < d j → ∃ m, Up f m j) → (∀ j, j < f.length → d j < 0 → ∃ m, FS.Reach f (m + 1) j i) →
      Calls Try.prog 88 #[.int .i64 i, .pointer (some ⟨bd, 0, none⟩), .pointer (some ⟨bc, 0, none⟩), .pointer (some ⟨bf, 0, none⟩)] w fun e w' => ClimbPost f bd bc bf g base B c A d i w e w' := by
  induction k using Nat.strongRecOn with
  | _ k ih =>
    intro i d w hz hi0 hi1 hI hgood hpath
    by_cases h1 : i = -1
    · subst h1
      have hup : ∃ m, Up f m (-1) := ⟨0, show (-1 : Int) < 0 by decide⟩
      go_enter Try.func88, Try.ntmps88
      go_wp2_with fail
      go_ret
      exact ⟨true, d, rfl, hI, Off.refl _ _, fun _ => ⟨hup, hgood, fun j hj => Iff.rfl, Nat.le_refl _⟩, fun h => by cases h⟩
    · obtain ⟨x, rfl⟩ : ∃ x : Nat, i = x := ⟨i.toNat, by omega⟩
      have hx : x < f.length := by omega
      have hx1 : ((x : Int) == -1) = false := by rw [beq_eq_false_iff_ne]; omega
      have c1 := cell_of hI.vd
      have c2 := cell_of hI.vc
      have c3 := cell_of hI.vf
      have c4 := hI.row.cellAt x (by omega)
      rw [dRow_get hx] at c4
      have c5 := hI.row.frozenAt x
      have hI1 := hI.set hx (-1)
      have hI1o : Off (fun b => b = g) w (w.setCell ⟨g, x, none⟩ (.int .i64 (-1))) := Off.setCell _ _ _ rfl
      have d1 := cell_of hI1.vd
      have d2 := cell_of hI1.vc
      have d3 := cell_of hI1.vf
      obtain ⟨b, o, _, _, _, _, rfl, hbB, _, _, _, _, n4, _⟩ := node_at hI1.rd hx
      have hpx := hp x hx
      have hat := at_nat hx
      rw [← hat] at n4
      have hst : ∀ n, 0 ≤ (x : Int) ∧ Up f n (at_ f x).parent → ∃ m, Up f m x := fun n h => ⟨n + 1, h⟩
      have hpath' := hpath x hx
      have hrec : d x = 0 → ∀ w1, CInv f bd bc bf g base B c (some ⟨b, o, none⟩) (upd d x (-1)) w1 → Calls Try.prog 88 #[.int .i64 (at_ f x).parent, .pointer (some ⟨bd, 0, none⟩), .pointer (some ⟨bc, 0, none⟩), .pointer (some ⟨bf, 0, none⟩)] w1 fun e w' => ClimbPost f bd bc bf g base B c (some ⟨b, o, none⟩) (upd d x (-1)) (at_ f x).parent w1 e w' := fun h0 w1 hI1 => by
        have hzu := zeros_upd hx h0 (x := -1) (by decide)
        refine ih (k - 1) (by omega) _ _ _ (by omega) hpx.1 hpx.2 hI1 (fun j hj hd => ?_) (fun j hj hd => ?_)
        · unfold upd at hd
          by_cases e : j = x
          · rw [if_pos e] at hd; omega
          · rw [if_neg e] at hd; exact hgood j hj hd
        · unfold upd at hd
          by_cases e : j = x
          · subst e
            exact ⟨0, by omega, rfl⟩
          · rw [if_neg e] at hd
            obtain ⟨m, hm⟩ := hpath j hj hd
            exact ⟨m + 1, hm.snoc (by omega)⟩
      generalize hprr : (at_ f x).parent = pr at *
      have HI := Lib.hid hI; have HI1 := Lib.hid hI1; have HI1o := Lib.hid hI1o; have Hst := Lib.hid hst; have Hgood := Lib.hid hgood; have Hpath := Lib.hid hpath'; have Hrec := Lib.hid hrec; have Hp := Lib.hid hp; have Hpr := Lib.hid hprr
      clear ih hI hI1 hI1o hst hgood hpath hpath' hrec hp hprr hat
      by_cases hpos : 0 < d x
      · have hup := Hgood.out x hx hpos
        have Hup := Lib.hid hup; clear hup
        generalize d x = dx at *
        go_enter Try.func88, Try.ntmps88
        go_wp2_with fail
        go_ret
        exact ⟨true, d, rfl, HI.out, Off.refl _ _, fun _ => ⟨Hup.out, Hgood.out, fun j hj => Iff.rfl, Nat.le_refl _⟩, fun h => by cases h⟩
      · by_cases hneg : d x < 0
        · obtain ⟨m, hm⟩ := Hpath.out hneg
          have hno := no_cycle hm
          have Hno := Lib.hid hno; clear hno hm
          generalize d x = dx at *
          go_enter Try.func88, Try.ntmps88
          go_wp2_with fail
          go_ret
          refine ⟨false, d, rfl, HI.out, Off.refl _ _, ?_, fun _ => Hno.out⟩
          intro h
          cases h
        · have h0 : d x = 0 := by omega
          have Hrec0 := Lib.hid (Hrec.out h0)
          have H0 := Lib.hid h0
          rw [h0] at c4
          clear hpos hneg h0
          go_enter Try.func88, Try.ntmps88
          go_wp2_with fail
          go_region_with (go_at_call 88; (first | with_reducible refine (Hrec0.out _ HI1.out).mono ?_ | with_reducible refine (Hrec0.out _ HI1.out.drew).mono ?_); go_loud (rintro e w5 ⟨r, d', rfl, hI5, ho5, hr5, hf5⟩; have e1 := cell_of hI5.vd; have e4 := hI5.row.cellAt x (by omega); rw [dRow_get hx] at e4; have e5 := hI5.row.frozenAt x; have HI5 := Lib.hid hI5; have Ho5 := Lib.hid ho5; have Hr5 := Lib.hid hr5; have Hf5 := Lib.hid hf5; clear hI5 ho5 hr5 hf5))
          all_goals go_wp2_with fail
          all_goals
            go_ret
            have Hr5' := Hr5.out; have Hf5' := Hf5.out
            rw [← Hpr.out] at Hr5' Hf5'
            first
              | exact ClimbPost.back hx H0.out HI5.out HI1o.out Ho5.out Hr5' Hf5'
              | exact ClimbPost.back hx H0.out HI5.out (HI1o.out.trans (Off.drew _ _)) Ho5.out Hr5' Hf5'
              | (have hb := ClimbPost.back hx H0.out HI5.out.drew HI1o.out (Ho5.out.trans (Off.drew _ _)) Hr5' Hf5'; exact hb)
              | (have hb := ClimbPost.back hx H0.out HI5.out.drew (HI1o.out.trans (Off.drew _ _)) (Ho5.out.trans (Off.drew _ _)) Hr5' Hf5'; exact hb)
end Go.Proofs.Ytbbompmpecblgaa.FClimb
end
section
/- forest.climbs itself. -/
namespace Go.Proofs.Ytbbompmpecblgaa.FClimbs
open Go Go.RowKit Go.Proofs.Ytbbompmpecblgaa.Seq Go.Proofs.Ytbbompmpecblgaa.WS Go.Proofs.Ytbbompmpecblgaa.FS Go.Proofs.Ytbbompmpecblgaa.WordIt Go.Proofs.Ytbbompmpecblgaa.Mem Go.Proofs.Ytbbompmpecblgaa.Rd Go.Proofs.Ytbbompmpecblgaa.Word Go.Proofs.Ytbbompmpecblgaa.WordHas Go.Proofs.Ytbbompmpecblgaa.Shapes Go.Proofs.Ytbbompmpecblgaa.FFam Go.Proofs.Ytbbompmpecblgaa.FClimb
set_option linter.unusedVariables false
set_option linter.unusedSimpArgs false

theorem run_store_func (P : Program) (w : World) (a : Addr) (m : Mode) (fn : Fn) (first cap : Array Value) : (store a (.func fn first cap) m).run P w = stored P w a (.func fn first cap) m := run_store P w a _ m rfl
attribute [local go_sem] run_store_func
theorem made_dRow (n : Nat) : (madeCells #[Value.int .i64 0] n).toList = dRow n (fun _ => 0) := by
  rw [made_row]; rfl
set_option maxRecDepth 100000 in
set_option maxHeartbeats 4000000 in
theorem climbs_calls (w : World) (v : Value) (f : Fo) (h : RdF w.heap.size w v f) (hn : f.length ≤ 60) (hp : ∀ i : Nat, i < f.length → -1 ≤ (at_ f i).parent ∧ (at_ f i).parent < f.length) :
    Calls Try.prog 67 #[v] w fun e w' => e = .returned (.bool (climbsB f)) ∧ Below w.heap.size w w' := by
  have HR := Lib.hid (fun w' hb => h.below nodeE_keeps (w' := w') hb (Nat.le_refl _))
  obtain ⟨A0, c0, rfl, hl0, hc0, _⟩ := h.form
  have hc0' := hc0
  simp only [maxLen] at hc0
  have hmk := fun W => run_make_row' (P := Try.prog) 40 3 (.int .i64 0) 8 Try.underlying40 info_int rfl .i64 .i64 f.length (by omega) (by omega) W
  have hmf : ∀ (fn : Fn) (first cap : Array Value) (w : World), (Instr.makeFunc fn first cap).run Try.prog w = .ok (.func fn first cap) w := fun _ _ _ _ => rfl
  have Hp := Lib.hid hp
  clear h hp
  go_enter Try.func67, Try.ntmps67
  go_wp2_with fail
  clear hmk hmf
  obtain ⟨W0, hW0⟩ : ∃ W0, (((w.alloc (.cells #[.slice A0 f.length c0] 33)).alloc (.cells (madeCells #[.int .i64 0] f.length) 3)).alloc (.cells #[.slice (some ⟨w.heap.size + 1, 0, none⟩) f.length f.length] 40)).alloc (.cells #[.func (.func 88) #[] #[.pointer (some ⟨w.heap.size + 1 + 1, 0, none⟩), .pointer (some ⟨w.heap.size + 1 + 1 + 1, 0, none⟩), .pointer (some ⟨w.heap.size, 0, none⟩)]] 117) = W0 := ⟨_, rfl⟩
  have hbl : Below w.heap.size w W0 := by rw [← hW0]; exact ((((Below.refl _ _).alloc (Nat.le_refl _) _).alloc (by simp) _).alloc (by simp; omega) _).alloc (by simp; omega) _
  have hI0 : CInv f (w.heap.size + 1 + 1) (w.heap.size + 1 + 1 + 1) w.heap.size (w.heap.size + 1) w.heap.size w.heap.size c0 A0 (fun _ => 0) W0 := by
    refine ⟨?_, ?_, ?_, ?_, HR.out _ hbl, by omega, by omega, by omega, by omega⟩
    · rw [← hW0]; exact heap_old (heap_new (by simp))
    · rw [← hW0]; exact heap_new (by simp)
    · rw [← hW0]; exact heap_old (heap_old (heap_old (heap_new rfl)))
    · have h0 := World.ownsRow_lit (base := w.heap.size) (e := 3) (size := 1) (w.alloc (.cells #[.slice A0 f.length c0] 33)) (madeCells #[.int .i64 0] f.length) f.length (by simp) (by simp only [maxLen]; omega) (by rw [size_madeCells]; omega)
      rw [made_dRow] at h0
      have e : (w.alloc (.cells #[.slice A0 f.length c0] 33)).heap.size = w.heap.size + 1 := by simp
      rw [e] at h0
      rw [← hW0]
      exact (h0.alloc _).alloc _
  rw [hW0]
  clear hW0
  have HI0 := Lib.hid hI0; have Hbl := Lib.hid hbl
  clear hI0 hbl
  go_loopw [12] (fun i wr => ∃ (k : Nat) (d : Nat → Int), k ≤ f.length ∧ i = .int .i64 k ∧ CInv f (w.heap.size + 1 + 1) (w.heap.size + 1 + 1 + 1) w.heap.size (w.heap.size + 1) w.heap.size w.heap.size c0 A0 d wr ∧ Below w.heap.size w wr ∧
    (∀ j, j < f.length → ¬ d j < 0) ∧ (∀ j, j < f.length → 0 < d j → ∃ m, Up f m j) ∧ (∀ j, j < k → ∃ m, Up f m (j : Int))) (fun i _ => f.length - (intOf i).toNat)
  case atStart => exact ⟨0, fun _ => 0, Nat.zero_le _, rfl, HI0.out, Hbl.out, fun j hj => Int.lt_irrefl 0, fun j hj h => absurd h (Int.lt_irrefl 0), fun j hj => by omega⟩
  case round =>
    obtain ⟨k, d, hk, rfl, h1, h2, h3, h4, h5⟩ := hrel
    by_cases hlt : k < f.length
    · have hc := climb_calls f hn Hp.out (w.heap.size + 1 + 1) (w.heap.size + 1 + 1 + 1) w.heap.size (w.heap.size + 1) w.heap.size w.heap.size c0 A0 hl0 (by omega) (zeros f.length d) k d wr (Nat.le_refl _) (by omega) (by omega) h1 h4 (fun j hj hd => absurd hd (h3 j hj))
      have e2 := cell_of h1.vc
      have H1 := Lib.hid h1; have H2 := Lib.hid h2; have H3 := Lib.hid h3; have H4 := Lib.hid h4; have H5 := Lib.hid h5; have Hc := Lib.hid hc
      clear h1 h2 h3 h4 h5 hc
      go_wp2_with (go_at_call 88; go_loud (refine (Hc.out).mono ?_; rintro e w5 ⟨r, d', rfl, hI5, ho5, hr5, hf5⟩; have HI5 := Lib.hid hI5; have Ho5 := Lib.hid ho5; have Hr5 := Lib.hid hr5; have Hf5 := Lib.hid hf5; clear hI5 ho5 hr5 hf5; cases r))
      · go_ret
        refine ⟨ret_bool (climbs_false (fun hcp => Hf5.out (by trivial) (hcp k hlt))).symm, H2.out.trans (Ho5.out.toBelow H2.out.size (fun b hb => by rw [hb]; omega))⟩
      · obtain ⟨g1, g2, g3, g4⟩ := Hr5.out (by trivial)
        go_roundw
        case rel =>
          refine ⟨k + 1, d', by omega, by go_num, HI5.out, H2.out.trans (Ho5.out.toBelow H2.out.size (fun b hb => by rw [hb]; omega)), fun j hj hd => by have h7 := H3.out j hj; have h8 := (g3 j hj).1 hd; omega, g2, fun j hj => ?_⟩
          by_cases e : j = k
          · subst e; exact g1
          · exact H5.out j (by omega)
        case measure => simp [intOf]; omega
    · obtain rfl : k = f.length := by omega
      have hcl : climbsB f = true := climbs_true (fun i hi => h5 i hi)
      have H2 := Lib.hid h2; have Hcl := Lib.hid hcl
      clear h1 h2 h3 h4 h5 hcl
      go_wp2
      go_ret
      exact ⟨ret_bool Hcl.out.symm, H2.out⟩
end Go.Proofs.Ytbbompmpecblgaa.FClimbs
end
section
/- (Node).plain. -/
namespace Go.Proofs.Ytbbompmpecblgaa.FPlain
open Go Go.RowKit Go.Proofs.Ytbbompmpecblgaa.Seq Go.Proofs.Ytbbompmpecblgaa.WS Go.Proofs.Ytbbompmpecblgaa.FS Go.Proofs.Ytbbompmpecblgaa.WordIt Go.Proofs.Ytbbompmpecblgaa.Mem Go.Proofs.Ytbbompmpecblgaa.Rd Go.Proofs.Ytbbompmpecblgaa.Word Go.Proofs.Ytbbompmpecblgaa.WordHas Go.Proofs.Ytbbompmpecblgaa.Shapes
set_option linter.unusedVariables false
set_option linter.unusedSimpArgs false

theorem empty_iff (s : ByteArray) : s.toList.isEmpty = decide (s.size = 0) := by
  rw [Bool.eq_iff_iff, Lib.toList_data, List.isEmpty_iff, decide_eq_true_eq, Lib.size_eq]
  exact List.length_eq_zero_iff.symm
theorem len0 {α : Type} (l : List α) : decide (l = ([] : List α)) = decide (l.length = 0) := by
  rw [decide_eq_decide]; exact List.length_eq_zero_iff.symm
set_option maxRecDepth 100000 in
set_option maxHeartbeats 4000000 in
theorem plain_calls (w : World) (kind parent : Int) (name text : ByteArray) (attrs : List Av) (kids : List Int) (va vk : Value) (ha : RdL attrE 2 w.heap.size w va attrs) (hk : RdL (intE .i64) 1 w.heap.size w vk kids) :
    Calls Try.prog 65 #[.agg #[.int .i64 kind, .string name, .string text, va, .int .i64 parent, vk]] w fun e w' => e = .returned (.bool (plainB ⟨kind, name, text, attrs, parent, kids⟩)) ∧ Below w.heap.size w w' := by
  have HA := Lib.hid (fun w' hb => ha.below attrE_keeps (w' := w') hb (Nat.le_refl _))
  obtain ⟨A0, c0, rfl, hl0, hc0, _⟩ := ha.form
  obtain ⟨A1, c1, rfl, hl1, hc1, _⟩ := hk.form
  clear ha hk
  have hat : ∀ w1, Below w.heap.size w w1 → Calls Try.prog 87 #[.slice A0 attrs.length c0] w1 fun e w' => e = .returned (.bool (attrsB attrs)) ∧ Below w1.heap.size w1 w' := fun w1 hb =>
    FAttr.attributes_calls w1 _ _ ((HA.out w1 hb).mono attrE_keeps hb.size)
  have Hat := Lib.hid hat; clear hat
  have e2 : (kind == 2) = decide (kind = 2) := rfl
  have e3 : (kind == 3) = decide (kind = 3) := rfl
  have e0 : (kind == 0) = decide (kind = 0) := rfl
  have e1 : (kind == 1) = decide (kind = 1) := rfl
  have n0 := empty_iff name
  have t0 := empty_iff text
  have a0 := len0 attrs
  have k0 := len0 kids
  have hN : ∀ w, Calls Try.prog 25 #[.string name] w fun e w' => e = .returned (.bool (nameB name.data.toList)) ∧ w = w' := fun w => Name_calls _ w
  have hT : ∀ w, Calls Try.prog 26 #[.string text] w fun e w' => e = .returned (.bool (textB text.data.toList)) ∧ w = w' := fun w => Text_calls _ w
  have HN := Lib.hid hN; have HT := Lib.hid hT
  clear hN hT
  have hcase : kind = 0 ∨ kind = 1 ∨ (kind = 2 ∨ kind = 3) ∨ (kind ≠ 0 ∧ kind ≠ 1 ∧ kind ≠ 2 ∧ kind ≠ 3) := by omega
  have hp : plainB ⟨kind, name, text, attrs, parent, kids⟩ = if kind = 0 then decide (name.size = 0) && decide (text.size = 0) && decide (attrs.length = 0) else if kind = 1 then nameB name.data.toList && decide (text.size = 0) && attrsB attrs
      else if kind = 2 ∨ kind = 3 then decide (name.size = 0) && textB text.data.toList && decide (attrs.length = 0) && decide (kids.length = 0) else false := by
    unfold plainB; rw [a0, k0]
  rw [hp]
  clear hp a0 k0
  rcases hcase with rfl | rfl | h | ⟨h0, h1, h2, h3⟩
  · clear e0 e1 e2 e3
    rw [if_pos rfl]
    go_enter Try.func65, Try.ntmps65
    go_wp2
    all_goals
      go_ret
      refine ⟨ret_bool ?_, (Below.refl _ _).alloc (Nat.le_refl _) _⟩
      rw [Bool.eq_iff_iff]
      simp_all
  · clear e0 e1 e2 e3
    rw [if_neg (by decide), if_pos rfl]
    generalize hnn : nameB name.data.toList = nn at *
    have Hnn := Lib.hid hnn; clear hnn
    go_enter Try.func65, Try.ntmps65
    go_wp2_with (first
      | (go_at_call 25; refine (HN.out _).mono ?_; rintro e w5 ⟨rfl, rfl⟩)
      | (go_at_call 87; refine (Hat.out _ ((Below.refl _ _).alloc (Nat.le_refl _) _)).mono ?_; rintro e w6 ⟨rfl, hb6⟩; have Hb6 := Lib.hid hb6; clear hb6))
    all_goals
      go_ret
      refine ⟨ret_bool ?_, by first | exact bthen ((Below.refl _ _).alloc (Nat.le_refl _) _) Hb6.out | exact (Below.refl _ _).alloc (Nat.le_refl _) _⟩
      rw [Bool.eq_iff_iff]
      simp_all
  · have h0 : kind ≠ 0 := by omega
    have h1 : kind ≠ 1 := by omega
    rw [if_neg h0, if_neg h1, if_pos h]
    rw [decide_eq_false h0] at e0
    rw [decide_eq_false h1] at e1
    generalize htt : textB text.data.toList = tt at *
    have Htt := Lib.hid htt; clear htt
    rcases h with rfl | rfl
    all_goals
      clear e0 e1 e2 e3 h0 h1
      go_enter Try.func65, Try.ntmps65
      go_wp2_with (go_at_call 26; refine (HT.out _).mono ?_; rintro e w5 ⟨rfl, rfl⟩)
      all_goals
        go_ret
        refine ⟨ret_bool ?_, by first | exact ((Below.refl _ _).alloc (Nat.le_refl _) _).setCell (by simp) _ | exact (Below.refl _ _).alloc (Nat.le_refl _) _⟩
        rw [Bool.eq_iff_iff]
        simp_all
        try (intro _ _ hkk; subst hkk; simp at *)
  · rw [if_neg h0, if_neg h1, if_neg (by omega)]
    rw [decide_eq_false h0] at e0
    rw [decide_eq_false h1] at e1
    rw [decide_eq_false h2] at e2
    rw [decide_eq_false h3] at e3
    go_enter Try.func65, Try.ntmps65
    go_wp2
    go_ret
    exact ⟨rfl, (Below.refl _ _).alloc (Nat.le_refl _) _⟩
end Go.Proofs.Ytbbompmpecblgaa.FPlain
end
