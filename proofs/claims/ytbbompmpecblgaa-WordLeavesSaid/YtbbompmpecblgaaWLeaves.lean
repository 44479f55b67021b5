/- WordLeaves. -/
import Derived.Test.YtbbompmpecblgaaWNames
namespace Go.Proofs.Ytbbompmpecblgaa.WLeaves
open Go Go.RowKit Go.Proofs.Ytbbompmpecblgaa.WS Go.Proofs.Ytbbompmpecblgaa.WordIt Go.Proofs.Ytbbompmpecblgaa.Mem Go.Proofs.Ytbbompmpecblgaa.Word Go.Proofs.Ytbbompmpecblgaa.WShown Go.Proofs.Ytbbompmpecblgaa.WNames
set_option linter.unusedVariables false
set_option linter.unusedSimpArgs false

def nb (l : List UInt8) : Nat := l.countP isBlank
theorem words_blank {b : UInt8} {l : List UInt8} (h : isBlank b = true) : words (b :: l) = words l := by
  have e : trimB (b :: l) = trimB l := by unfold trimB; rw [List.dropWhile_cons, h]; rfl
  by_cases ht : trimB l = []
  · rw [words_nil ht, words_nil (by rw [e, ht])]
  · rw [words_cons ht, words_cons (by rw [e]; exact ht), e]
theorem words_face {b : UInt8} {l : List UInt8} (h : isBlank b = false) : words (b :: l) = headB (b :: l) :: words (tailB (b :: l)) := by
  have e : trimB (b :: l) = b :: l := by unfold trimB; rw [List.dropWhile_cons, h]; rfl
  rw [words_cons (by rw [e]; simp), e]
theorem nb_cons (b : UInt8) (l : List UInt8) : nb (b :: l) = nb l + if isBlank b then 1 else 0 := by unfold nb; rw [List.countP_cons]
theorem nb_tail (l : List UInt8) : nb (tailB l) ≤ nb l := by
  unfold nb tailB
  exact (List.dropWhile_suffix _).sublist.countP_le
theorem tail_head (l : List UInt8) : tailB l = [] ∨ ∃ b t, tailB l = b :: t ∧ isBlank b = true := by
  cases h : tailB l with
  | nil => exact .inl rfl
  | cons b t =>
    refine .inr ⟨b, t, rfl, ?_⟩
    have := List.head?_dropWhile_not (fun b => !isBlank b) l
    unfold tailB at h
    rw [h] at this
    simpa using this
theorem words_le (n : Nat) : ∀ l : List UInt8, l.length ≤ n → (words l).length ≤ nb l + 1 ∧ (∀ b t, l = b :: t → isBlank b = true → (words l).length ≤ nb l) := by
  induction n with
  | zero =>
    intro l hl
    obtain rfl : l = [] := List.eq_nil_of_length_eq_zero (by omega)
    exact ⟨by rw [words_nil (by rfl)]; simp, fun b t h => by cases h⟩
  | succ n ih =>
    intro l hl
    cases l with
    | nil => exact ⟨by rw [words_nil (by rfl)]; simp, fun b t h => by cases h⟩
    | cons b t =>
      simp only [List.length_cons] at hl
      cases hb : isBlank b with
      | true =>
        have h1 := (ih t (by omega)).1
        have h2 : (words (b :: t)).length ≤ nb (b :: t) := by rw [words_blank hb, nb_cons, hb]; simpa using h1
        exact ⟨by omega, fun _ _ _ _ => h2⟩
      | false =>
        refine ⟨?_, fun b' t' h hb' => by injection h with h _; rw [← h, hb] at hb'; cases hb'⟩
        rw [words_face hb, List.length_cons]
        have htl : (tailB (b :: t)).length ≤ n := by
          have e : tailB (b :: t) = tailB t := by unfold tailB; rw [List.dropWhile_cons]; simp [hb]
          rw [e]; have := tailB_le t; omega
        have hn := nb_tail (b :: t)
        rcases tail_head (b :: t) with h | ⟨b', t', h, hb'⟩
        · rw [h, words_nil (by rfl)]; simp
        · have := (ih _ htl).2 b' t' h hb'
          omega
theorem all_blank {l : List UInt8} (h : nb l = l.length) : words l = [] := by
  refine words_nil ?_
  unfold trimB
  unfold nb at h
  rw [List.countP_eq_length] at h
  induction l with
  | nil => rfl
  | cons b l ih => rw [List.dropWhile_cons, h b (by simp)]; exact ih (fun x hx => h x (by simp [hx]))
theorem no_blank {l : List UInt8} (h : nb l = 0) : ∀ b ∈ l, isBlank b = false := by
  unfold nb at h
  rw [List.countP_eq_zero] at h
  intro b hb
  simpa using h b hb
theorem some_face {l : List UInt8} (h : nb l ≠ l.length) : words l ≠ [] := by
  intro hw
  apply h
  have ht : trimB l = [] := by
    rcases Classical.em (trimB l = []) with h1 | h1
    · exact h1
    · rw [words_cons h1] at hw; cases hw
  unfold nb
  rw [List.countP_eq_length]
  unfold trimB at ht
  clear hw h
  induction l with
  | nil => intro b hb; cases hb
  | cons x l ih =>
    rw [List.dropWhile_cons] at ht
    cases hx : isBlank x with
    | false => rw [hx] at ht; cases ht
    | true =>
      rw [hx] at ht
      intro b hb
      rcases List.mem_cons.1 hb with rfl | hb
      · exact hx
      · exact ih ht b hb
theorem once_ne {l : List (List UInt8)} (h : l ≠ []) : once l ≠ [] := by
  intro ho
  cases l with
  | nil => exact h rfl
  | cons x l =>
    have := (mem_once (x :: l) x).2 (by simp)
    rw [ho] at this; cases this

theorem nb_take {s : ByteArray} {k : Nat} (hk : k < s.size) : nb (s.data.toList.take (k + 1)) = nb (s.data.toList.take k) + if isBlank s[k] then 1 else 0 := by
  rw [List.take_succ_eq_append_getElem (by simpa using hk)]
  unfold nb
  rw [List.countP_append, List.countP_singleton]
  rfl
theorem nb_le (l : List UInt8) : nb l ≤ l.length := List.countP_le_length
theorem blank_is (b : UInt8) (h : isBlank b = true) : (b.toNat : Int) = 9 ∨ (b.toNat : Int) = 10 ∨ (b.toNat : Int) = 12 ∨ (b.toNat : Int) = 13 ∨ (b.toNat : Int) = 32 := by
  unfold isBlank at h
  simp only [Bool.or_eq_true, beq_iff_eq] at h
  rcases h with (((rfl | rfl) | rfl) | rfl) | rfl <;> simp
theorem blank_not (b : UInt8) (h : isBlank b = false) : ((b.toNat : Int) == 9) = false ∧ ((b.toNat : Int) == 10) = false ∧ ((b.toNat : Int) == 12) = false ∧ ((b.toNat : Int) == 13) = false ∧ ((b.toNat : Int) == 32) = false := by
  have key : ∀ n : Fin 256, isBlank (UInt8.ofNat n.val) = false → n.val ≠ 9 ∧ n.val ≠ 10 ∧ n.val ≠ 12 ∧ n.val ≠ 13 ∧ n.val ≠ 32 := by decide +kernel
  have := key ⟨b.toNat, b.toNat_lt⟩ (by simpa using h)
  simp only [beq_eq_false_iff_ne] at *
  omega
set_option maxHeartbeats 2000000 in
theorem WordLeaves_calls (s : ByteArray) (w : World) : Calls Try.prog 7 #[.string s] w fun e w' => e = .returned (.bool true) ∧ Below w.heap.size w w' := by
  by_cases hs : 300 < s.size
  · go_enter Try.func7, Try.ntmps7
    go_wp2_with (go_at_call 19; refine (shown_calls _).mono ?_; rintro e w2 ⟨rfl, hb2⟩)
    go_ret
    exact ⟨rfl, hb2⟩
  · go_enter Try.func7, Try.ntmps7
    go_wp2_with (go_at_call 19; refine (shown_calls _).mono ?_; rintro e w2 ⟨rfl, hb2⟩)
    have Hb2 := Lib.hid hb2; clear hb2
    go_loop [3, 4] (fun c i => ∃ k : Nat, k ≤ s.size ∧ i = .int .i64 k ∧ c = .int .i64 (nb (s.data.toList.take k) : Nat)) (fun _ i => s.size - (intOf i).toNat)
    case atStart => exact ⟨0, Nat.zero_le _, rfl, rfl⟩
    case round =>
      obtain ⟨k, hk, rfl, rfl⟩ := hrel
      have hle : nb (s.data.toList.take k) ≤ k := Nat.le_trans (nb_le _) (List.length_take_le _ _)
      by_cases hlt : k < s.size
      · have hst := nb_take hlt
        generalize hn0 : nb (s.data.toList.take k) = n0 at *
        have Hn0 := Lib.hid hn0; clear hn0
        cases hb : isBlank s[k] with
        | true =>
          rw [hb, if_pos rfl] at hst
          have Hst := Lib.hid hst; clear hst
          have hbi := blank_is _ hb
          clear hb
          rcases hbi with hbi | hbi | hbi | hbi | hbi
          all_goals
            go_wp2
            go_round
            case rel => exact ⟨k + 1, by omega, by go_num, by rw [Hst.out]; go_num⟩
            case measure => simp [intOf]; omega
        | false =>
          rw [hb, if_neg (by simp)] at hst
          have Hst := Lib.hid hst; clear hst
          obtain ⟨b1, b2, b3, b4, b5⟩ := blank_not _ hb
          clear hb
          go_wp2
          go_round
          case rel => exact ⟨k + 1, by omega, by go_num, by rw [Hst.out]; rfl⟩
          case measure => simp [intOf]; omega
      · obtain rfl : k = s.size := by omega
        rw [show s.data.toList.take s.size = s.data.toList from List.take_of_length_le (by simp)] at *
        have hT := fun w => WordHas.Tokens_calls s (by omega) w
        have hle2 := (words_le s.data.toList.length s.data.toList (Nat.le_refl _)).1
        by_cases c1 : nb s.data.toList = s.size
        · have hwn : once (words s.data.toList) = [] := by rw [all_blank (by rw [c1, Lib.size_eq])]; rfl
          have hT1 : ∀ w, Calls Try.prog 23 #[.string s] w fun e w' => ∃ A c, e = .returned (.slice A 0 c) ∧ Below w.heap.size w w' := fun w => by
            refine (hT w).mono ?_
            rintro e w1 ⟨v, rfl, hv, hb1⟩
            rw [hwn] at hv
            obtain ⟨A, c, rfl, _⟩ := hv
            exact ⟨A, c, rfl, hb1⟩
          have HT := Lib.hid hT1
          rw [c1]
          clear hT hT1 hwn c1 hle hle2
          go_wp2_with (go_at_call 23; refine (HT.out _).mono ?_; rintro e w3 ⟨A, c, rfl, hb3⟩)
          go_ret
          exact ⟨rfl, bthen Hb2.out hb3⟩
        · have q1 : ((nb s.data.toList : Int) == (s.size : Int)) = false := by rw [beq_eq_false_iff_ne]; omega
          by_cases c2 : nb s.data.toList = 0
          · have hne : s.data.toList ≠ [] := by
              intro h
              apply c1
              rw [Lib.size_eq, h]; rfl
            have hww : words s.data.toList = [s.data.toList] := words_plain (no_blank c2) hne
            have hw1 : once (words s.data.toList) = [s.data.toList] := by rw [hww]; rfl
            have hH : ∀ w, Calls Try.prog 21 #[.string s, .string s] w fun e w' => e = .returned (.bool true) ∧ Below w.heap.size w w' := fun w => by
              have := WordHas.Has_calls s s (by omega) w
              rw [hww, show [s.data.toList].contains s.data.toList = true by simp] at this
              exact this
            have hT1 : ∀ w, Calls Try.prog 23 #[.string s] w fun e w' => ∃ ad c, e = .returned (.slice (some ad) 1 c) ∧ w'.cell? ad = some (.string s) ∧ Below w.heap.size w w' := fun w => by
              have := hT w
              rw [hw1] at this
              refine this.mono ?_
              rintro e w1 ⟨v, rfl, hv, hb1⟩
              obtain ⟨A, c, rfl, hc1, hc2, hc3, hc4⟩ := hv
              obtain ⟨ad, rfl, had, hcell⟩ := hc4 (by simp)
              have hc0 := hcell 0 (str s.data.toList) rfl
              rw [show ad.add 0 = ad from if_pos rfl, show str s.data.toList = .string s from by unfold str; rw [Array.toArray_toList]] at hc0
              exact ⟨ad, c, rfl, hc0, hb1⟩
            have q2 : ((nb s.data.toList : Int) == 0) = true := by rw [c2]; rfl
            have HT := Lib.hid hT1; have HH := Lib.hid hH
            clear hT hT1 hww hw1 hH c1 c2 hne hle2
            generalize nb s.data.toList = n0 at *
            go_wp2_with (first
              | (go_at_call 23; refine (HT.out _).mono ?_; rintro e w3 ⟨ad, c, rfl, hc0, hb3⟩)
              | (go_at_call 21; refine (HH.out _).mono ?_; rintro e w4 ⟨rfl, hb4⟩))
            go_ret
            exact ⟨rfl, bthen (bthen Hb2.out hb3) hb4⟩
          · have q2 : ((nb s.data.toList : Int) == 0) = false := by rw [beq_eq_false_iff_ne]; omega
            have hpos : 0 < (once (words s.data.toList)).length := by
              have := once_ne (some_face (l := s.data.toList) (by rw [← Lib.size_eq]; exact c1))
              exact List.length_pos_iff.2 this
            have hle3 : (once (words s.data.toList)).length ≤ nb s.data.toList + 1 := Nat.le_trans (once_length _) hle2
            have hT1 : ∀ w, Calls Try.prog 23 #[.string s] w fun e w' => ∃ A c, e = .returned (.slice A (once (words s.data.toList)).length c) ∧ Below w.heap.size w w' := fun w => by
              refine (hT w).mono ?_
              rintro e w1 ⟨v, rfl, hv, hb1⟩
              obtain ⟨A, c, rfl, _⟩ := hv
              exact ⟨A, c, rfl, hb1⟩
            generalize (once (words s.data.toList)).length = m at *
            have HT := Lib.hid hT1
            clear hT hT1 c1 c2 hle2
            generalize nb s.data.toList = n0 at *
            go_wp2_with (go_at_call 23; refine (HT.out _).mono ?_; rintro e w3 ⟨A, c, rfl, hb3⟩)
            go_ret
            exact ⟨ret_bool (by first | rfl | (simp; done) | (simp; omega)), bthen Hb2.out hb3⟩
end Go.Proofs.Ytbbompmpecblgaa.WLeaves
