/- The words of a text, names, folding: plain functions on lists of bytes. No program. -/
import Derived.Laws.BytesArg
namespace Go.Proofs.Ytbbompmpecblgaa.WS
set_option linter.unusedVariables false

def isBlank (b : UInt8) : Bool := b == 9 || b == 10 || b == 12 || b == 13 || b == 32
def letterB (b : UInt8) : Bool := (65 ≤ b.toNat && b.toNat ≤ 90) || (97 ≤ b.toNat && b.toNat ≤ 122)
def digitB (b : UInt8) : Bool := 48 ≤ b.toNat && b.toNat ≤ 57
def markB (b : UInt8) : Bool := letterB b || digitB b || b == 45 || b == 95
def nameB (s : List UInt8) : Bool := decide (1 ≤ s.length) && decide (s.length ≤ 20) && (s.head?.map letterB).getD false && s.all markB
def textB (s : List UInt8) : Bool := decide (s.length ≤ 60)
def foldB (b : UInt8) : UInt8 := if 65 ≤ b.toNat ∧ b.toNat ≤ 90 then b ||| 32 else b

def trimB (s : List UInt8) : List UInt8 := s.dropWhile isBlank
def headB (s : List UInt8) : List UInt8 := s.takeWhile (fun b => !isBlank b)
def tailB (s : List UInt8) : List UInt8 := s.dropWhile (fun b => !isBlank b)
theorem tailB_le (s : List UInt8) : (tailB s).length ≤ s.length := (List.dropWhile_suffix _).length_le
theorem trimB_le (s : List UInt8) : (trimB s).length ≤ s.length := (List.dropWhile_suffix _).length_le
theorem head_tail (s : List UInt8) : headB s ++ tailB s = s := List.takeWhile_append_dropWhile
theorem trimB_head {s : List UInt8} {b : UInt8} {t : List UInt8} (h : trimB s = b :: t) : isBlank b = false := by
  have := List.head?_dropWhile_not isBlank s
  unfold trimB at h
  rw [h] at this
  simpa using this
theorem tailB_lt {s : List UInt8} (h : trimB s ≠ []) : (tailB (trimB s)).length < (trimB s).length := by
  cases hs : trimB s with
  | nil => exact absurd hs h
  | cons b t =>
    have hb := trimB_head hs
    have : tailB (b :: t) = tailB t := by unfold tailB; rw [List.dropWhile_cons]; simp [hb]
    rw [this]
    have := tailB_le t
    simp; omega

/-- The words, also those that come again. -/
def words (s : List UInt8) : List (List UInt8) :=
  if h : trimB s = [] then [] else headB (trimB s) :: words (tailB (trimB s))
termination_by s.length
decreasing_by
  have := tailB_lt h
  have := trimB_le s
  omega

theorem words_nil {s : List UInt8} (h : trimB s = []) : words s = [] := by rw [words, dif_pos h]
theorem words_cons {s : List UInt8} (h : trimB s ≠ []) : words s = headB (trimB s) :: words (tailB (trimB s)) := by rw [words, dif_neg h]

/-- Each once. -/
def once (l : List (List UInt8)) : List (List UInt8) := l.foldl (fun acc w => if w ∈ acc then acc else acc ++ [w]) []
theorem once_snoc (l : List (List UInt8)) (w : List UInt8) : once (l ++ [w]) = if w ∈ once l then once l else once l ++ [w] := by
  unfold once
  rw [List.foldl_append]
  rfl
def put1 (acc : List (List UInt8)) (w : List UInt8) : List (List UInt8) := if w ∈ acc then acc else acc ++ [w]
theorem mem_put1 (acc : List (List UInt8)) (x w : List UInt8) : w ∈ put1 acc x ↔ w ∈ acc ∨ w = x := by
  unfold put1
  split
  · rename_i h
    constructor
    · exact .inl
    · rintro (h1 | rfl)
      · exact h1
      · exact h
  · simp
theorem mem_foldl_put1 (l : List (List UInt8)) : ∀ (acc : List (List UInt8)) (w : List UInt8), w ∈ l.foldl put1 acc ↔ w ∈ acc ∨ w ∈ l := by
  induction l with
  | nil => simp
  | cons x l ih =>
    intro acc w
    rw [List.foldl_cons, ih, mem_put1, List.mem_cons, or_assoc]
theorem once_eq (l : List (List UInt8)) : once l = l.foldl put1 [] := rfl
theorem mem_once (l : List (List UInt8)) (w : List UInt8) : w ∈ once l ↔ w ∈ l := by
  rw [once_eq, mem_foldl_put1]; simp
theorem foldl_put1_filter (b : List (List UInt8)) : ∀ (u acc : List (List UInt8)),
    b.foldl put1 (acc ++ u.filter (fun w => !acc.contains w)) = acc ++ (b.foldl put1 u).filter (fun w => !acc.contains w) := by
  induction b with
  | nil => intro u acc; rfl
  | cons x b ih =>
    intro u acc
    rw [List.foldl_cons, List.foldl_cons, ← ih]
    congr 1
    by_cases hx : x ∈ acc
    · have hc : (!acc.contains x) = false := by simp [hx]
      have h1 : put1 (acc ++ u.filter (fun w => !acc.contains w)) x = acc ++ u.filter (fun w => !acc.contains w) := by
        unfold put1; rw [if_pos (List.mem_append.2 (.inl hx))]
      rw [h1]
      unfold put1
      split
      · rfl
      · rw [List.filter_append, List.filter_cons, hc]; simp
    · have hc : (!acc.contains x) = true := by simp [hx]
      unfold put1
      by_cases hu : x ∈ u
      · rw [if_pos hu, if_pos (List.mem_append.2 (.inr (List.mem_filter.2 ⟨hu, hc⟩)))]
      · rw [if_neg hu, if_neg (fun h => by rcases List.mem_append.1 h with h | h; exact hx h; exact hu (List.mem_filter.1 h).1)]
        rw [List.filter_append, List.filter_cons, hc]; simp
theorem once_append (a b : List (List UInt8)) : once (a ++ b) = once a ++ (once b).filter (fun w => !(once a).contains w) := by
  rw [once_eq, List.foldl_append, ← once_eq]
  have := foldl_put1_filter b [] (once a)
  simpa [once_eq b] using this
theorem words_length (s : List UInt8) : (words s).length ≤ s.length := by
  induction h : s.length using Nat.strongRecOn generalizing s with
  | _ n ih =>
    by_cases ht : trimB s = []
    · rw [words_nil ht]; simp
    · rw [words_cons ht]
      have h1 := tailB_lt ht
      have h2 := trimB_le s
      have := ih _ (by omega) (tailB (trimB s)) rfl
      simp only [List.length_cons]; omega
theorem foldl_put1_length (l : List (List UInt8)) : ∀ acc : List (List UInt8), (l.foldl put1 acc).length ≤ acc.length + l.length := by
  induction l with
  | nil => intro acc; simp
  | cons x l ih =>
    intro acc
    rw [List.foldl_cons]
    have h1 := ih (put1 acc x)
    have h2 : (put1 acc x).length ≤ acc.length + 1 := by unfold put1; split <;> simp
    simp only [List.length_cons]; omega
theorem once_length (l : List (List UInt8)) : (once l).length ≤ l.length := by
  have := foldl_put1_length l []
  simpa [once_eq] using this
end Go.Proofs.Ytbbompmpecblgaa.WS
