/- Forests: what lies below a node, in order. No program. -/
import Derived.Test.YtbbompmpecblgaaFSpec2
namespace Go.Proofs.Ytbbompmpecblgaa.FS

set_option linter.unusedVariables false

theorem atN {f : Fo} {i : Nat} (hi : i < f.length) : at_ f (i : Int) = f[i] := by
  unfold at_
  rw [if_pos (by omega), Int.toNat_natCast, List.getD_eq_getElem?_getD, List.getElem?_eq_getElem hi]
  rfl
theorem node_iff (f : Fo) (k : Int) : isNode f k = true ↔ 0 ≤ k ∧ k < f.length := by unfold isNode; simp
theorem node_nat {f : Fo} {k : Int} (h : isNode f k = true) : ∃ n : Nat, k = n ∧ n < f.length := by
  rw [node_iff] at h
  exact ⟨k.toNat, by omega, by omega⟩

/-! The family. -/
theorem fam_kids {f : Fo} (h : familyB f = true) {i k : Int} (hi : isNode f i = true) (hk : k ∈ (at_ f i).kids) : isNode f k = true ∧ (at_ f k).parent = i := by
  obtain ⟨n, rfl, hn⟩ := node_nat hi
  unfold familyB at h
  rw [Bool.and_eq_true, List.all_eq_true] at h
  have := h.1 n (List.mem_range.2 hn)
  unfold kidsB at this
  rw [Bool.and_eq_true, List.all_eq_true] at this
  have := this.1 k hk
  rw [Bool.and_eq_true, decide_eq_true_eq] at this
  exact this
theorem fam_parent {f : Fo} (h : familyB f = true) {i : Int} (hi : isNode f i = true) : -1 ≤ (at_ f i).parent ∧ (at_ f i).parent < f.length ∧ (0 ≤ (at_ f i).parent → known f i = 1) := by
  obtain ⟨n, rfl, hn⟩ := node_nat hi
  unfold familyB at h
  rw [Bool.and_eq_true, List.all_eq_true, List.all_eq_true] at h
  have := h.2 n (List.mem_range.2 hn)
  unfold parentB at this
  simp only [Bool.and_eq_true, Bool.or_eq_true, decide_eq_true_eq] at this
  exact ⟨this.1.1, this.1.2, fun h0 => by rcases this.2 with h | h; omega; exact h⟩
theorem sum_le_mem {α : Type} (g : α → Nat) : ∀ (l : List α) (x : α), x ∈ l → g x ≤ (l.map g).sum
  | [], x, h => by cases h
  | y :: l, x, h => by
    rw [List.map_cons, List.sum_cons]
    rcases List.mem_cons.1 h with rfl | h
    · omega
    · have := sum_le_mem g l x h; omega
theorem sum_pos_mem {α : Type} (g : α → Nat) : ∀ (l : List α), 0 < (l.map g).sum → ∃ x ∈ l, 0 < g x
  | [], h => by simp at h
  | y :: l, h => by
    rw [List.map_cons, List.sum_cons] at h
    by_cases h0 : 0 < g y
    · exact ⟨y, by simp, h0⟩
    · obtain ⟨x, hx, h1⟩ := sum_pos_mem g l (by omega)
      exact ⟨x, by simp [hx], h1⟩
theorem count_le_known {f : Fo} {i : Int} (hi : isNode f i = true) (k : Int) : (at_ f i).kids.count k ≤ known f k := by
  obtain ⟨n, rfl, hn⟩ := node_nat hi
  rw [atN hn]
  exact sum_le_mem (fun n => n.kids.count k) f f[n] (List.getElem_mem _)
theorem kids_nodup {f : Fo} (h : familyB f = true) {i : Int} (hi : isNode f i = true) : (at_ f i).kids.Nodup := by
  rw [List.nodup_iff_count]
  intro k
  by_cases hk : k ∈ (at_ f i).kids
  · obtain ⟨h1, h2⟩ := fam_kids h hi hk
    have h3 := (fam_parent h h1).2.2
    rw [h2] at h3
    have h4 := count_le_known hi k
    have := h3 ((node_iff f i).1 hi).1
    omega
  · rw [List.count_eq_zero_of_not_mem hk]; omega
theorem kid_of_parent {f : Fo} (h : familyB f = true) {k : Int} (hk : isNode f k = true) (h0 : 0 ≤ (at_ f k).parent) : isNode f (at_ f k).parent = true ∧ k ∈ (at_ f (at_ f k).parent).kids := by
  obtain ⟨h1, h2, h3⟩ := fam_parent h hk
  refine ⟨(node_iff _ _).2 ⟨h0, h2⟩, ?_⟩
  obtain ⟨n, hn, hc⟩ := sum_pos_mem (fun n => n.kids.count k) f (by have := h3 h0; unfold known at this; omega)
  obtain ⟨j, hj, rfl⟩ := List.mem_iff_getElem.1 hn
  have hjn : isNode f (j : Int) = true := (node_iff _ _).2 ⟨by omega, by omega⟩
  have hm : k ∈ (at_ f (j : Int)).kids := by rw [atN hj]; exact List.count_pos_iff.1 hc
  rw [(fam_kids h hjn hm).2]
  exact hm

/-! How deep it goes. -/
theorem Reach.trans {f : Fo} : ∀ {m n : Nat} {i j k : Int}, Reach f m i j → Reach f n j k → Reach f (m + n) i k
  | 0, n, i, j, k, h, g => by cases h; rw [Nat.zero_add]; exact g
  | m + 1, n, i, j, k, h, g => by rw [show m + 1 + n = (m + n) + 1 by omega]; exact ⟨h.1, Reach.trans h.2 g⟩
/-- From no node below i it is n steps, or more, up to i. -/
def Deep (f : Fo) (n : Nat) (i : Int) : Prop := ∀ j m, isNode f j = true → Reach f m j i → m < n
theorem Deep.mono {f : Fo} {n n' : Nat} {i : Int} (h : Deep f n i) (hn : n ≤ n') : Deep f n' i := fun j m hj hr => Nat.lt_of_lt_of_le (h j m hj hr) hn
theorem Deep.zero {f : Fo} {i : Int} (hi : isNode f i = true) : ¬ Deep f 0 i := fun h => by have := h i 0 hi rfl; omega
theorem Deep.kid {f : Fo} {n : Nat} {i k : Int} (hf : familyB f = true) (hi : isNode f i = true) (hk : k ∈ (at_ f i).kids) (h : Deep f (n + 1) i) : Deep f n k := fun j m hj hr => by
  obtain ⟨h1, h2⟩ := fam_kids hf hi hk
  have := Reach.snoc hr ((node_iff _ _).1 h1).1
  rw [h2] at this
  have := h j (m + 1) hj this
  omega
theorem up_bound {f : Fo} (h : climbsP f) : ∀ k, k ≤ f.length → ∃ M, ∀ i : Nat, i < k → ∀ n, Up f n i → n ≤ M
  | 0, _ => ⟨0, fun i hi => absurd hi (Nat.not_lt_zero _)⟩
  | k + 1, hk => by
    obtain ⟨M, hM⟩ := up_bound h k (by omega)
    obtain ⟨m, hm⟩ := h k (by omega)
    refine ⟨max M m, fun i hi n hn => ?_⟩
    by_cases e : i = k
    · subst e
      rw [hn.unique hm]
      exact Nat.le_max_right _ _
    · exact Nat.le_trans (hM i (by omega) n hn) (Nat.le_max_left _ _)
theorem deep_any {f : Fo} (h : climbsP f) : ∃ M, ∀ i, Deep f M i := by
  obtain ⟨M, hM⟩ := up_bound h f.length (Nat.le_refl _)
  refine ⟨M + 1, fun i j m hj hr => ?_⟩
  obtain ⟨x, rfl, hx⟩ := node_nat hj
  obtain ⟨n, hn⟩ := h x hx
  have := (hn.reach hr).1
  have := hM x hx n hn
  omega
/-- As deep as a forest goes. -/
noncomputable def fuel (f : Fo) : Nat := @dite Nat (∃ M, ∀ i, Deep f M i) (Classical.propDecidable _) (fun h => Classical.choose h) (fun _ => 0)
theorem fuel_deep {f : Fo} (h : climbsP f) (i : Int) : Deep f (fuel f) i := by
  have hd := deep_any h
  unfold fuel
  rw [dif_pos hd]
  exact Classical.choose_spec hd i

/-! Functions that go down. -/
section
variable {α : Type}
/-- What a function gathers that goes down: of a node its own, and what the kids gather. -/
def down (f : Fo) (g : Int → List α → List α) : Nat → Int → List α
  | 0, _ => []
  | n + 1, i => g i ((at_ f i).kids.flatMap (down f g n))
theorem flatMap_congr' {β : Type} {l : List β} {g h : β → List α} (e : ∀ x ∈ l, g x = h x) : l.flatMap g = l.flatMap h := by
  induction l with
  | nil => rfl
  | cons y l ih =>
    rw [List.flatMap_cons, List.flatMap_cons, e y (by simp), ih (fun x hx => e x (by simp [hx]))]
theorem down_fuel {f : Fo} (hf : familyB f = true) (g : Int → List α → List α) : ∀ {n m : Nat} {i : Int}, isNode f i = true → Deep f n i → Deep f m i → down f g n i = down f g m i
  | 0, m, i, hi, h, k => absurd h (Deep.zero hi)
  | n + 1, 0, i, hi, h, k => absurd k (Deep.zero hi)
  | n + 1, m + 1, i, hi, h, k => by
    unfold down
    rw [flatMap_congr' (fun x hx => down_fuel hf g (fam_kids hf hi hx).1 (h.kid hf hi hx) (k.kid hf hi hx))]
/-- It, as deep as the forest goes. -/
noncomputable def downF (f : Fo) (g : Int → List α → List α) (i : Int) : List α := down f g (fuel f) i
theorem downF_eq {f : Fo} (hf : familyB f = true) (hc : climbsP f) (g : Int → List α → List α) {i : Int} (hi : isNode f i = true) : downF f g i = g i ((at_ f i).kids.flatMap (downF f g)) := by
  have hd := fuel_deep hc i
  unfold downF
  rw [down_fuel hf g hi hd (hd.mono (Nat.le_succ _))]
  rfl
theorem downF_of {f : Fo} (hf : familyB f = true) (hc : climbsP f) (g : Int → List α → List α) {n : Nat} {i : Int} (hi : isNode f i = true) (h : Deep f n i) : down f g n i = downF f g i := down_fuel hf g hi h (fuel_deep hc i)
end
/-- A node, and all below it, in their order. -/
noncomputable def order (f : Fo) (i : Int) : List Int := downF f (fun i l => i :: l) i
theorem order_eq {f : Fo} (hf : familyB f = true) (hc : climbsP f) {i : Int} (hi : isNode f i = true) : order f i = i :: (at_ f i).kids.flatMap (order f) := downF_eq hf hc _ hi
/-- To prove a thing of all nodes: of the kids first. -/
theorem down_ind {f : Fo} (hf : familyB f = true) (hc : climbsP f) {P : Int → Prop} (h : ∀ i, isNode f i = true → (∀ k ∈ (at_ f i).kids, P k) → P i) {i : Int} (hi : isNode f i = true) : P i := by
  have key : ∀ n i, isNode f i = true → Deep f n i → P i := by
    intro n
    induction n with
    | zero => exact fun i hi hd => absurd hd (Deep.zero hi)
    | succ n ih => exact fun i hi hd => h i hi (fun k hk => ih k (fam_kids hf hi hk).1 (hd.kid hf hi hk))
  exact key _ i hi (fuel_deep hc i)
theorem reach_last {f : Fo} : ∀ {m : Nat} {i j : Int}, Reach f (m + 1) j i → ∃ k, Reach f m j k ∧ 0 ≤ k ∧ (at_ f k).parent = i
  | 0, i, j, h => ⟨j, rfl, h.1, h.2⟩
  | m + 1, i, j, h => by
    obtain ⟨k, h1, h2, h3⟩ := reach_last h.2
    exact ⟨k, ⟨h.1, h1⟩, h2, h3⟩
theorem reach_node {f : Fo} (hf : familyB f = true) : ∀ {m : Nat} {i j : Int}, isNode f j = true → Reach f m j i → 0 ≤ i → isNode f i = true
  | 0, i, j, hj, h, _ => by cases h; exact hj
  | m + 1, i, j, hj, h, h0 => by
    have hp := fam_parent hf hj
    by_cases hz : 0 ≤ (at_ f j).parent
    · exact reach_node hf ((node_iff _ _).2 ⟨hz, hp.2.1⟩) h.2 h0
    · cases m with
      | zero => have : (at_ f j).parent = i := h.2; omega
      | succ m => have := h.2.1; omega
theorem mem_order {f : Fo} (hf : familyB f = true) (hc : climbsP f) {i : Int} (hi : isNode f i = true) : ∀ j, j ∈ order f i ↔ isNode f j = true ∧ ∃ m, Reach f m j i := by
  refine down_ind hf hc (P := fun i => isNode f i = true → ∀ j, j ∈ order f i ↔ isNode f j = true ∧ ∃ m, Reach f m j i) (fun i _ ih hi j => ?_) hi hi
  rw [order_eq hf hc hi, List.mem_cons, List.mem_flatMap]
  constructor
  · rintro (rfl | ⟨k, hk, hj⟩)
    · exact ⟨hi, 0, rfl⟩
    · obtain ⟨h1, h2⟩ := fam_kids hf hi hk
      obtain ⟨h3, m, hm⟩ := (ih k hk h1 j).1 hj
      refine ⟨h3, m + 1, ?_⟩
      have := Reach.snoc hm ((node_iff _ _).1 h1).1
      rwa [h2] at this
  · rintro ⟨hj, m, hm⟩
    cases m with
    | zero => left; exact hm
    | succ m =>
      right
      obtain ⟨k, h1, h2, h3⟩ := reach_last hm
      have hk := reach_node hf hj h1 h2
      have h4 := (kid_of_parent hf hk (by rw [h3]; exact ((node_iff _ _).1 hi).1)).2
      rw [h3] at h4
      exact ⟨k, h4, (ih k h4 hk j).2 ⟨hj, m, h1⟩⟩
theorem Reach.same {f : Fo} : ∀ {m : Nat} {j i i' : Int}, Reach f m j i → Reach f m j i' → i = i'
  | 0, _, _, _, h, k => h.symm.trans k
  | m + 1, _, _, _, h, k => Reach.same h.2 k.2
theorem Reach.steps {f : Fo} (hc : climbsP f) {m n : Nat} {j i i' : Int} (hj : isNode f j = true) (h : Reach f m j i) (k : Reach f n j i') (hu : ∀ a b, Up f a i → Up f b i' → a = b) : m = n := by
  obtain ⟨x, rfl, hx⟩ := node_nat hj
  obtain ⟨N, hN⟩ := hc x hx
  obtain ⟨a1, a2⟩ := hN.reach h
  obtain ⟨b1, b2⟩ := hN.reach k
  have := hu _ _ a2 b2
  omega
theorem nodup_flatMap {α β : Type} {g : α → List β} : ∀ {l : List α}, l.Nodup → (∀ x ∈ l, (g x).Nodup) → (∀ x ∈ l, ∀ y ∈ l, ∀ z, z ∈ g x → z ∈ g y → x = y) → (l.flatMap g).Nodup
  | [], _, _, _ => by simp
  | x :: l, hn, h1, h2 => by
    rw [List.nodup_cons] at hn
    rw [List.flatMap_cons, List.nodup_append]
    refine ⟨h1 x (by simp), nodup_flatMap hn.2 (fun y hy => h1 y (by simp [hy])) (fun y hy z hz => h2 y (by simp [hy]) z (by simp [hz])), fun a ha b hb e => ?_⟩
    subst e
    obtain ⟨y, hy, hay⟩ := List.mem_flatMap.1 hb
    have := h2 x (by simp) y (by simp [hy]) a ha hay
    subst this
    exact hn.1 hy
theorem order_nodup {f : Fo} (hf : familyB f = true) (hc : climbsP f) {i : Int} (hi : isNode f i = true) : (order f i).Nodup := by
  refine down_ind hf hc (P := fun i => isNode f i = true → (order f i).Nodup) (fun i _ ih hi => ?_) hi hi
  rw [order_eq hf hc hi, List.nodup_cons]
  refine ⟨fun h => ?_, nodup_flatMap (kids_nodup hf hi) (fun k hk => ih k hk (fam_kids hf hi hk).1) (fun k hk k' hk' j hj hj' => ?_)⟩
  · obtain ⟨k, hk, hj⟩ := List.mem_flatMap.1 h
    obtain ⟨h1, h2⟩ := fam_kids hf hi hk
    obtain ⟨_, m, hm⟩ := (mem_order hf hc h1 i).1 hj
    have := Reach.snoc hm ((node_iff _ _).1 h1).1
    rw [h2] at this
    obtain ⟨x, rfl, hx⟩ := node_nat hi
    exact no_cycle this (hc x hx)
  · obtain ⟨h1, h2⟩ := fam_kids hf hi hk
    obtain ⟨h1', h2'⟩ := fam_kids hf hi hk'
    obtain ⟨g1, m, hm⟩ := (mem_order hf hc h1 j).1 hj
    obtain ⟨_, m', hm'⟩ := (mem_order hf hc h1' j).1 hj'
    have : m = m' := Reach.steps hc g1 hm hm' (fun a b ha hb => by
      cases a with
      | zero => have : k < 0 := ha; have := ((node_iff _ _).1 h1).1; omega
      | succ a =>
        cases b with
        | zero => have : k' < 0 := hb; have := ((node_iff _ _).1 h1').1; omega
        | succ b =>
          have h5 := ha.2
          have h6 := hb.2
          rw [h2] at h5
          rw [h2'] at h6
          rw [h5.unique h6])
    subst this
    exact hm.same hm'
/-- Who is in no list twice is in it at most so often as there are numbers. -/
theorem nodup_len : ∀ (n : Nat) {l : List Int}, l.Nodup → (∀ x ∈ l, 0 ≤ x ∧ x < n) → l.length ≤ n
  | 0, l, _, h => by
    cases l with
    | nil => simp
    | cons x l => have := h x (by simp); omega
  | n + 1, l, hn, h => by
    have h1 := nodup_len n (hn.sublist (List.filter_sublist (p := fun x => decide (x ≠ (n : Int))))) (fun x hx => by
      obtain ⟨h2, h3⟩ := List.mem_filter.1 hx
      have := h x h2
      simp at h3
      omega)
    have h2 := List.length_eq_countP_add_countP (fun x => decide (x ≠ (n : Int))) (l := l)
    rw [List.countP_eq_length_filter] at h2
    have h3 : l.countP (fun a => decide ¬(decide (a ≠ (n : Int))) = true) = l.count (n : Int) := by
      unfold List.count
      apply List.countP_congr
      intro x _
      simp
    have h4 := (List.nodup_iff_count.1 hn) (n : Int)
    omega
theorem order_len {f : Fo} (hf : familyB f = true) (hc : climbsP f) {i : Int} (hi : isNode f i = true) : (order f i).length ≤ f.length :=
  nodup_len _ (order_nodup hf hc hi) (fun x hx => (node_iff _ _).1 ((mem_order hf hc hi x).1 hx).1)
/-- A sum over what lies below. -/
theorem sum_flatMap {α β : Type} (c : β → Nat) (g : α → List β) : ∀ l : List α, ((l.flatMap g).map c).sum = (l.map (fun x => ((g x).map c).sum)).sum
  | [] => rfl
  | x :: l => by rw [List.flatMap_cons, List.map_append, List.sum_append, List.map_cons, List.sum_cons, sum_flatMap c g l]
theorem sum_le_len {α : Type} (c : α → Nat) (M : Nat) : ∀ (l : List α), (∀ x ∈ l, c x ≤ M) → (l.map c).sum ≤ l.length * M
  | [], _ => by simp
  | x :: l, h => by
    rw [List.map_cons, List.sum_cons, List.length_cons, Nat.add_mul]
    have := h x (by simp)
    have := sum_le_len c M l (fun y hy => h y (by simp [hy]))
    omega
end Go.Proofs.Ytbbompmpecblgaa.FS
