/- What stands alone, and what is below it: the plain law. No program. -/
import Derived.Test.YtbbompmpecblgaaFOrd
namespace Go.Proofs.Ytbbompmpecblgaa.FS
set_option linter.unusedVariables false
theorem below_iff {f : Fo} (hm : mayB f = true) {t i : Int} (hi : isNode f i = true) : belowB f t i = true ↔ belowP f t i := by
  unfold belowB
  rw [hm, hi]
  simp
theorem mem_tops {f : Fo} {t : Int} : t ∈ topsL f ↔ isNode f t = true ∧ (at_ f t).parent = -1 := by
  unfold topsL
  rw [List.mem_map]
  constructor
  · rintro ⟨n, hn, rfl⟩
    rw [List.mem_filter, List.mem_range] at hn
    exact ⟨(node_iff _ _).2 ⟨by omega, by omega⟩, by simpa using hn.2⟩
  · rintro ⟨h1, h2⟩
    obtain ⟨n, rfl, hn⟩ := node_nat h1
    exact ⟨n, by rw [List.mem_filter, List.mem_range]; exact ⟨hn, by simpa using h2⟩, rfl⟩
theorem tops_nodup (f : Fo) : (topsL f).Nodup := by
  unfold topsL
  refine List.Pairwise.map _ ?_ (List.nodup_range.sublist List.filter_sublist)
  intro a b h e
  exact h (by omega)
theorem countP_one {l : List Int} {p : Int → Bool} {t : Int} (hn : l.Nodup) (ht : t ∈ l) (hp : p t = true) (hu : ∀ x ∈ l, p x = true → x = t) : l.countP p = 1 := by
  have h1 : l.countP p = l.count t := by
    unfold List.count
    apply List.countP_congr
    intro x hx
    constructor
    · intro h; simpa using hu x hx h
    · intro h; have : x = t := by simpa using h
      rw [this]; exact hp
  have h2 := (List.nodup_iff_count.1 hn) t
  have h3 := List.count_pos_iff.2 ht
  omega
theorem top_of {f : Fo} (hf : familyB f = true) : ∀ (n : Nat) {i : Int}, isNode f i = true → Up f (n + 1) i → ∃ t, Reach f n i t ∧ isNode f t = true ∧ (at_ f t).parent = -1
  | 0, i, hi, h => ⟨i, rfl, hi, by have h1 : (at_ f i).parent < 0 := h.2; have := (fam_parent hf hi).1; omega⟩
  | n + 1, i, hi, h => by
    have h0 : 0 ≤ (at_ f i).parent := h.2.1
    have hp := (kid_of_parent hf hi h0).1
    obtain ⟨t, h1, h2, h3⟩ := top_of hf n hp h.2
    exact ⟨t, ⟨h.1, h1⟩, h2, h3⟩
theorem top_one {f : Fo} (hm : mayB f = true) {i : Int} (hi : isNode f i = true) : (topsL f).countP (fun t => belowB f t i) = 1 := by
  have hf := may_family hm
  have hc := may_climbs hm
  obtain ⟨x, rfl, hx⟩ := node_nat hi
  obtain ⟨N, hN⟩ := hc x hx
  obtain ⟨n, rfl⟩ : ∃ n, N = n + 1 := by
    cases N with
    | zero => have : (x : Int) < 0 := hN; omega
    | succ n => exact ⟨n, rfl⟩
  obtain ⟨t, h1, h2, h3⟩ := top_of hf n hi hN
  refine countP_one (tops_nodup f) (mem_tops.2 ⟨h2, h3⟩) ((below_iff hm hi).2 ⟨((node_iff _ _).1 h2).1, n, h1⟩) (fun y hy hb => ?_)
  obtain ⟨g1, g2⟩ := mem_tops.1 hy
  obtain ⟨_, m, hr⟩ := (below_iff hm hi).1 hb
  obtain ⟨k1, k2⟩ := hN.reach hr
  have k3 : Up f 1 y := ⟨((node_iff _ _).1 g1).1, by rw [g2]; show (-1 : Int) < 0; decide⟩
  have := k2.unique k3
  have : m = n := by omega
  subst this
  exact hr.same h1
theorem below_self {f : Fo} (hm : mayB f = true) {i : Int} (hi : isNode f i = true) : belowB f i i = true := (below_iff hm hi).2 ⟨((node_iff _ _).1 hi).1, 0, rfl⟩
theorem below_parent {f : Fo} (hm : mayB f = true) {i : Int} (hi : isNode f i = true) (h0 : 0 ≤ (at_ f i).parent) : belowB f i (at_ f i).parent = false ∧ belowB f (at_ f i).parent i = true := by
  have hf := may_family hm
  have hp := (kid_of_parent hf hi h0).1
  refine ⟨?_, (below_iff hm hi).2 ⟨h0, 1, ((node_iff _ _).1 hi).1, rfl⟩⟩
  rw [← Bool.not_eq_true]
  intro hb
  obtain ⟨h1, m, hr⟩ := (below_iff hm hp).1 hb
  have : Reach f (m + 1) i i := ⟨h1, hr⟩
  obtain ⟨x, rfl, hx⟩ := node_nat hi
  exact no_cycle this (may_climbs hm x hx)
theorem may_root {f : Fo} (hm : mayB f = true) : (at_ f 0).parent = -1 := by
  unfold mayB at hm
  simp only [Bool.and_eq_true, decide_eq_true_eq] at hm
  exact hm.1.1.1.2
theorem tops_head {f : Fo} (hm : mayB f = true) : ∃ l, topsL f = 0 :: l := by
  have hl := (may_len hm).1
  have hr := may_root hm
  unfold topsL
  obtain ⟨n, hn⟩ : ∃ n, f.length = n + 1 := ⟨f.length - 1, by omega⟩
  rw [hn, List.range_succ_eq_map, List.filter_cons]
  rw [if_pos (by simpa using hr)]
  exact ⟨_, rfl⟩
end Go.Proofs.Ytbbompmpecblgaa.FS
