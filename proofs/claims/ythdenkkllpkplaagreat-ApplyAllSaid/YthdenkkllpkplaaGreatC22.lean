/- Joined by a program: R7J. -/
import Derived.Test.YthdenkkllpkplaaGreatC19
import Derived.Test.YthdenkkllpkplaaGreatC21
section
/- treillageref07: what insert comes to, in plain words. -/
namespace Go.Proofs.YthdenkkllpkplaaGreat.R7
open Go Go.RowKit Go.Proofs.YthdenkkllpkplaaGreat.WS Go.Proofs.YthdenkkllpkplaaGreat.FS
set_option linter.unusedVariables false
set_option linter.unusedSimpArgs false
theorem firstE_five (a b c d e : Int) (p q r s t : Bool) : firstE [(a, p), (b, q), (c, r), (d, s), (e, t)] = if p = true then (if q = true then (if r = true then (if s = true then (if t = true then 0 else e) else d) else c) else b) else a := by
  unfold firstE
  cases p <;> cases q <;> cases r <;> cases s <;> cases t <;> simp
theorem insert_E {f : Fo} {o : Opn} (hmo : mayO o = true) (hk : o.kind = 4) : oneE f o = if isNode f o.id = true then (if isNode f o.to = true then (if liesB f o = true then (if (!belowB f o.id o.to) = true then (if fitsB f o = true then 0 else 73) else 72) else 71) else 70) else 70 := by
  unfold oneE checks
  rw [if_pos hmo, if_neg (by omega), if_neg (by omega), if_pos hk, firstE_five]
  rfl
/-- By its kinds it lies there. -/
theorem lies_is {f : Fo} {o : Opn} {n t : Nat} (hM : IsMay f) (hid : o.id = n) (hto : o.to = t) (hn : n < f.length) (ht : t < f.length) :
    liesB f o = (decide (n ≠ 0) && decide (f[t].kind ≤ 1) && !(decide (t = 0) && decide (f[n].kind = 2)) && !(decide (t = 0) && decide (f[n].kind = 1) && f[t].kids.any (fun k => k != (n : Int) && (at_ f k).kind == 1))) := by
  obtain ⟨pn, kn⟩ := hM.node n hn
  obtain ⟨pt, kt⟩ := hM.node t ht
  rw [atN hn] at pn kn
  rw [atN ht] at pt kt
  have k1 := plain_kind' pn
  have k2 := plain_kind' pt
  unfold liesB
  rw [hid, hto, atN hn, atN ht]
  by_cases n0 : n = 0
  · rw [if_pos (.inl (by omega))]; simp [n0]
  by_cases t1 : f[t].kind ≤ 1
  · rw [if_neg (by omega)]
    by_cases t0 : t = 0
    · by_cases n3 : f[n].kind = 3
      · rw [if_pos (.inr n3)]; simp [n0, t1, n3]
      · rw [if_neg (by omega)]
        by_cases n1 : f[n].kind = 1
        · rw [decide_eq_true n0, decide_eq_true t1, decide_eq_true t0, decide_eq_true n1, decide_eq_false (show ¬ f[n].kind = 2 by omega), beq_iff_eq.2 n1]; simp
        · have n2 : f[n].kind = 2 := by omega
          rw [decide_eq_true n0, decide_eq_true t1, decide_eq_true t0, decide_eq_true n2, beq_eq_false_iff_ne.2 n1]; simp
    · rw [if_pos (.inl (by omega))]; simp [n0, t1, t0]
  · rw [if_pos (.inr (by omega))]; simp [t1]
theorem lies_kind {f : Fo} {o : Opn} {n t : Nat} (hM : IsMay f) (hid : o.id = n) (hto : o.to = t) (hn : n < f.length) (ht : t < f.length) (h : n = 0 ∨ ¬ f[t].kind ≤ 1 ∨ (t = 0 ∧ f[n].kind = 2)) : liesB f o = false := by
  rw [lies_is hM hid hto hn ht]
  rcases h with h | h | ⟨h1, h2⟩
  · simp [h]
  · simp [h]
  · simp [h1, h2]
theorem lies_hit {f : Fo} {o : Opn} {n t : Nat} (hM : IsMay f) (hid : o.id = n) (hto : o.to = t) (hn : n < f.length) (ht : t < f.length) (h0 : t = 0) (h1 : f[n].kind = 1) (j : Nat) (hj : j < f[t].kids.length) (h2 : (f[t].kids[j] != (n : Int)) = true) (h3 : ((at_ f f[t].kids[j]).kind == 1) = true) : liesB f o = false := by
  rw [lies_is hM hid hto hn ht]
  have : f[t].kids.any (fun k => k != (n : Int) && (at_ f k).kind == 1) = true := List.any_eq_true.2 ⟨_, List.getElem_mem hj, by rw [h2, h3]; rfl⟩
  rw [this]
  simp [h0, h1]
theorem lies_true {f : Fo} {o : Opn} {n t : Nat} (hM : IsMay f) (hid : o.id = n) (hto : o.to = t) (hn : n < f.length) (ht : t < f.length) (a : n ≠ 0) (b : f[t].kind ≤ 1) (c : ¬ (t = 0 ∧ f[n].kind = 2))
    (h : ∀ m (hm : m < f[t].kids.length), (decide (t = 0) && decide (f[n].kind = 1) && (f[t].kids[m] != (n : Int) && (at_ f f[t].kids[m]).kind == 1)) = false) : liesB f o = true := by
  rw [lies_is hM hid hto hn ht]
  have e1 : (decide (t = 0) && decide (f[n].kind = 2)) = false := by
    rw [← Bool.not_eq_true, Bool.and_eq_true, decide_eq_true_eq, decide_eq_true_eq]; exact c
  have e2 : (decide (t = 0) && decide (f[n].kind = 1) && f[t].kids.any (fun k => k != (n : Int) && (at_ f k).kind == 1)) = false := by
    rw [← Bool.not_eq_true, Bool.and_eq_true, List.any_eq_true]
    rintro ⟨h1, k, hk, h2⟩
    obtain ⟨m, hm, rfl⟩ := List.mem_iff_getElem.1 hk
    have := h m hm
    rw [h1, h2] at this
    cases this
  rw [e1, e2, decide_eq_true a, decide_eq_true b]
  rfl
theorem fits_is {f : Fo} {o : Opn} {n t : Nat} (hM : IsMay f) (hid : o.id = n) (hto : o.to = t) (hn : n < f.length) (ht : t < f.length) :
    fitsB f o = decide (0 ≤ o.at_ ∧ o.at_ ≤ ((f[t].kids.filter (· != (n : Int))).length : Int)) := by
  have hpar := hM.par n hn
  have hl := len_filter (n : Int) f[t].kids
  unfold fitsB
  rw [hid, hto, atN ht]
  have hc : f[t].kids.count (n : Int) = if (at_ f (n : Int)).parent = (t : Int) then 1 else 0 := by
    by_cases hp : (at_ f (n : Int)).parent = (t : Int)
    · rw [if_pos hp]
      have := hpar.2.2 (by omega)
      rw [hp, atN ht] at this
      exact this
    · rw [if_neg hp]
      have := not_kid hM hp
      rw [atN ht] at this
      exact List.count_eq_zero.2 this
  rw [hc] at hl
  congr 1
  by_cases hp : (at_ f (n : Int)).parent = (t : Int)
  · rw [if_pos hp] at hl ⊢
    rw [hl]
    apply propext
    constructor <;> rintro ⟨a, b⟩ <;> exact ⟨a, by omega⟩
  · rw [if_neg hp] at hl ⊢
    rw [hl]
    apply propext
    constructor <;> rintro ⟨a, b⟩ <;> exact ⟨a, by omega⟩
/-- The forest that the reference's three stores leave. -/
def insG (f : Fo) (n t : Nat) (a : Nat) (F1 : Fo) : Fo :=
  let F2 := F1.set n { at_ F1 n with parent := t }
  F2.set t { at_ F2 t with kids := insertL ((at_ f t).kids.filter (· != (n : Int))) a n }
theorem insG_is {f : Fo} {o : Opn} {n t : Nat} (hM : IsMay f) (hid : o.id = n) (hto : o.to = t) (hn : n < f.length) (ht : t < f.length) (F1 : Fo)
    (h1 : ((at_ f (n : Int)).parent < 0 ∧ F1 = f) ∨ ∃ p : Nat, (at_ f (n : Int)).parent = p ∧ p < f.length ∧ F1 = f.set p { at_ f (p : Int) with kids := (at_ f (p : Int)).kids.filter (· != (n : Int)) }) :
    insG f n t o.at_.toNat F1 = insertF f o := by
  have hl1 : F1.length = f.length := by
    rcases h1 with ⟨_, rfl⟩ | ⟨p, _, _, rfl⟩
    · rfl
    · rw [List.length_set]
  have hF : ∀ j : Int, at_ F1 j = { at_ f j with kids := (at_ f j).kids.filter (· != (n : Int)) } := by
    intro j
    rcases h1 with ⟨hp, rfl⟩ | ⟨p, hp, hpl, rfl⟩
    · rw [filter_none]
      by_cases e : j < 0
      · have : at_ F1 j = {} := by unfold at_; rw [if_neg (by omega)]
        rw [this]; simp
      · exact not_kid hM (by omega)
    · rw [set_at hpl]
      by_cases e : j = (p : Int)
      · rw [if_pos e, e]
      · rw [if_neg e, filter_none]
        exact not_kid hM (by rw [hp]; exact fun x => e x.symm)
  refine fo_ext (by rw [insert_length]; unfold insG; simp [hl1]) (fun i hi => ?_)
  rw [insert_at hM hid hto hn ht]
  unfold insG
  simp only
  rw [set_at (by rw [List.length_set, hl1]; exact ht), set_at (by rw [hl1]; exact hn), set_at (by rw [hl1]; exact hn), hF, hF, hF]
  by_cases e : (i : Int) = (t : Int)
  · by_cases e2 : (i : Int) = (n : Int)
    · rw [if_pos e, if_pos e, if_pos e2, if_pos (e ▸ e2), ← e2, ← e]
    · rw [if_pos e, if_pos e, if_neg e2, if_neg (e ▸ e2), ← e]
  · by_cases e2 : (i : Int) = (n : Int)
    · rw [if_neg e, if_neg e, if_pos e2, if_pos e2, e2]
    · rw [if_neg e, if_neg e, if_neg e2, if_neg e2]
end Go.Proofs.YthdenkkllpkplaaGreat.R7
end
