/- How forests are printed: plain functions. No program. -/
import Derived.Test.YtbbompmpecblgaaFOrd
namespace Go.Proofs.Ytbbompmpecblgaa.FS
open Go.Proofs.Ytbbompmpecblgaa.WS
set_option linter.unusedVariables false

/-- What a byte is replaced by. -/
def repl (q : Bool) (c : UInt8) : Option (List UInt8) := if c = 38 then some [38, 97, 109, 112, 59] else if c = 60 then some [38, 108, 116, 59] else if q = true ∧ c = 34 then some [38, 113, 117, 111, 116, 59] else none
def escB (q : Bool) (c : UInt8) : List UInt8 := (repl q c).getD [c]
def esc (q : Bool) (s : List UInt8) : List UInt8 := s.flatMap (escB q)
theorem escB_len (q : Bool) (c : UInt8) : 1 ≤ (escB q c).length ∧ (escB q c).length ≤ 6 := by
  unfold escB repl
  split
  · simp
  · split
    · simp
    · split <;> simp
theorem esc_len (q : Bool) : ∀ s : List UInt8, s.length ≤ (esc q s).length ∧ (esc q s).length ≤ 6 * s.length
  | [] => by simp [esc]
  | c :: s => by
    have h1 := escB_len q c
    have h2 := esc_len q s
    unfold esc at h2 ⊢
    rw [List.flatMap_cons, List.length_append, List.length_cons]
    omega
theorem esc_append (q : Bool) (s t : List UInt8) : esc q (s ++ t) = esc q s ++ esc q t := List.flatMap_append
def attrL (a : Av) : List UInt8 := [32] ++ a.name.data.toList ++ [61, 34] ++ esc true a.value.data.toList ++ [34]
def headL (n : Nd) : List UInt8 := [60] ++ n.name.data.toList ++ n.attrs.flatMap attrL ++ [62]
def tailL (n : Nd) : List UInt8 := [60, 47] ++ n.name.data.toList ++ [62]
/-- A node, around what its kids print. -/
def printN (n : Nd) (l : List UInt8) : List UInt8 :=
  if n.kind = 0 then l
  else if n.kind = 1 then headL n ++ l ++ tailL n
  else if n.kind = 2 then esc false n.text.data.toList
  else if n.kind = 3 then [60, 33] ++ esc false n.text.data.toList ++ [33, 62]
  else []
noncomputable def printL (f : Fo) (i : Int) : List UInt8 := downF f (fun i l => printN (at_ f i) l) i
theorem printL_eq {f : Fo} (hf : familyB f = true) (hc : climbsP f) {i : Int} (hi : isNode f i = true) : printL f i = printN (at_ f i) ((at_ f i).kids.flatMap (printL f)) := downF_eq hf hc _ hi
theorem printN_len (n : Nd) (l : List UInt8) : (printN n l).length ≤ (printN n []).length + l.length := by
  unfold printN
  split
  · simp
  · split
    · simp only [List.length_append, List.length_nil]; omega
    · split
      · omega
      · split
        · omega
        · simp
theorem printL_len {f : Fo} (hf : familyB f = true) (hc : climbsP f) {i : Int} (hi : isNode f i = true) : (printL f i).length ≤ ((order f i).map (fun j => (printN (at_ f j) []).length)).sum := by
  refine down_ind hf hc (P := fun i => isNode f i = true → (printL f i).length ≤ ((order f i).map (fun j => (printN (at_ f j) []).length)).sum) (fun i _ ih hi => ?_) hi hi
  rw [order_eq hf hc hi, printL_eq hf hc hi, List.map_cons, List.sum_cons, sum_flatMap]
  refine Nat.le_trans (printN_len _ _) (Nat.add_le_add_left ?_ _)
  have key : ∀ l : List Int, (∀ k ∈ l, (printL f k).length ≤ ((order f k).map (fun j => (printN (at_ f j) []).length)).sum) → (l.flatMap (printL f)).length ≤ (l.map (fun x => ((order f x).map (fun j => (printN (at_ f j) []).length)).sum)).sum := by
    intro l
    induction l with
    | nil => intro _; simp
    | cons k l ih =>
      intro h
      rw [List.flatMap_cons, List.length_append, List.map_cons, List.sum_cons]
      have := h k (by simp)
      have := ih (fun x hx => h x (by simp [hx]))
      omega
  exact key _ (fun k hk => ih k hk (fam_kids hf hi hk).1)
theorem may_plain {f : Fo} (h : mayB f = true) {i : Int} (hi : isNode f i = true) : plainB (at_ f i) = true := by
  obtain ⟨n, rfl, hn⟩ := node_nat hi
  unfold mayB at h
  simp only [Bool.and_eq_true] at h
  have := List.all_eq_true.1 h.1.1.2 n (List.mem_range.2 hn)
  rw [Bool.and_eq_true] at this
  exact this.1
theorem attrL_len {a : Av} (h1 : a.name.data.toList.length ≤ 20) (h2 : a.value.data.toList.length ≤ 60) : (attrL a).length ≤ 384 := by
  unfold attrL
  simp only [List.length_append, List.length_cons, List.length_nil]
  have := (esc_len true a.value.data.toList).2
  omega
theorem name_len {s : List UInt8} (h : nameB s = true) : 1 ≤ s.length ∧ s.length ≤ 20 := by
  unfold nameB at h
  simp only [Bool.and_eq_true, decide_eq_true_eq] at h
  exact ⟨h.1.1.1, h.1.1.2⟩
theorem text_len {s : List UInt8} (h : textB s = true) : s.length ≤ 60 := by unfold textB at h; exact of_decide_eq_true h
theorem attrs_parts {l : List Av} (h : attrsB l = true) : l.length ≤ 8 ∧ ∀ a ∈ l, nameB a.name.data.toList = true ∧ textB a.value.data.toList = true := by
  unfold attrsB at h
  simp only [Bool.and_eq_true, decide_eq_true_eq, List.all_eq_true] at h
  exact ⟨h.2, h.1.1⟩
theorem attrsL_len {l : List Av} (h : ∀ a ∈ l, nameB a.name.data.toList = true ∧ textB a.value.data.toList = true) : (l.flatMap attrL).length ≤ l.length * 384 := by
  induction l with
  | nil => simp
  | cons a l ih =>
    rw [List.flatMap_cons, List.length_append, List.length_cons, Nat.add_mul]
    have := ih (fun x hx => h x (by simp [hx]))
    have h1 := h a (by simp)
    have := attrL_len (name_len h1.1).2 (text_len h1.2)
    omega
theorem printN_cost {n : Nd} (h : plainB n = true) : (printN n []).length ≤ 4000 := by
  unfold plainB at h
  unfold printN
  split at h
  · rename_i h0; rw [if_pos h0]; simp
  · rename_i h0
    rw [if_neg h0]
    split at h
    · rename_i h1
      rw [if_pos h1]
      simp only [Bool.and_eq_true] at h
      have h2 := name_len h.1.1
      have h3 := attrs_parts h.2
      have h4 := attrsL_len h3.2
      unfold headL tailL
      simp only [List.length_append, List.length_cons, List.length_nil]
      omega
    · rename_i h1
      rw [if_neg h1]
      split at h
      · simp only [Bool.and_eq_true] at h
        have h2 := text_len h.1.1.2
        have h3 := (esc_len false n.text.data.toList).2
        split
        · omega
        · split
          · simp only [List.length_append, List.length_cons, List.length_nil]; omega
          · simp
      · cases h
theorem print_small {f : Fo} (h : mayB f = true) {i : Int} (hi : isNode f i = true) : (printL f i).length ≤ 240000 := by
  have hf := may_family h
  have hc := may_climbs h
  have h1 := printL_len hf hc hi
  have h2 := sum_le_len (fun j => (printN (at_ f j) []).length) 4000 (order f i) (fun j hj => printN_cost (may_plain h ((mem_order hf hc hi j).1 hj).1))
  have h3 := order_len hf hc hi
  have h4 := (may_len h).2
  have : (order f i).length * 4000 ≤ 60 * 4000 := Nat.mul_le_mul_right _ (by omega)
  omega
/-- What is printed of any node of any forest. -/
noncomputable def printF (f : Fo) (i : Int) : List UInt8 := if mayB f = true ∧ isNode f i = true then printL f i else []
end Go.Proofs.Ytbbompmpecblgaa.FS
