/- WordNames. -/
import Derived.Test.YtbbompmpecblgaaWShown
namespace Go.Proofs.Ytbbompmpecblgaa.WNames
open Go Go.RowKit Go.Proofs.Ytbbompmpecblgaa.WS Go.Proofs.Ytbbompmpecblgaa.WordIt Go.Proofs.Ytbbompmpecblgaa.Mem Go.Proofs.Ytbbompmpecblgaa.Word Go.Proofs.Ytbbompmpecblgaa.WShown
set_option linter.unusedVariables false
set_option linter.unusedSimpArgs false

theorem name_snoc (l : List UInt8) (b : UInt8) (h : nameB l = true) : nameB (l ++ [b]) = (markB b && decide (l.length < 20)) := by
  unfold nameB at h ⊢
  simp only [Bool.and_eq_true, decide_eq_true_eq] at h
  obtain ⟨⟨⟨h1, h2⟩, h3⟩, h4⟩ := h
  cases l with
  | nil => simp at h1
  | cons x l =>
    simp only [List.cons_append, List.head?_cons, Option.map_some, Option.getD_some] at h3 ⊢
    rw [h3]
    have e : (x :: (l ++ [b])).all markB = markB b := by
      rw [← List.cons_append, List.all_append, h4]; simp
    rw [e]
    simp only [List.length_cons, List.length_append, List.length_nil]
    rw [decide_eq_true (show 1 ≤ l.length + (0 + 1) + 1 by omega)]
    cases markB b with
    | false => simp
    | true => simp; omega
theorem name_no_blank {l : List UInt8} (h : nameB l = true) : ∀ b ∈ l, isBlank b = false := by
  unfold nameB at h
  simp only [Bool.and_eq_true, List.all_eq_true] at h
  intro b hb
  have hm := h.2 b hb
  have key : ∀ n : Fin 256, markB (UInt8.ofNat n.val) = true → isBlank (UInt8.ofNat n.val) = false := by decide +kernel
  have := key ⟨b.toNat, b.toNat_lt⟩
  simpa using this (by simpa using hm)
theorem words_plain {l : List UInt8} (h : ∀ b ∈ l, isBlank b = false) (hne : l ≠ []) : words l = [l] := by
  have ht : trimB l = l := by
    unfold trimB
    cases l with
    | nil => rfl
    | cons x l => rw [List.dropWhile_cons, h x (by simp)]; rfl
  have hh : headB l = l := by
    unfold headB
    clear ht hne
    induction l with
    | nil => rfl
    | cons x l ih => rw [List.takeWhile_cons, h x (by simp)]; simp [ih (fun b hb => h b (by simp [hb]))]
  have hta : tailB l = [] := by
    have := head_tail l
    rw [hh] at this
    exact List.append_right_eq_self.1 this
  rw [words_cons (by rw [ht]; exact hne), ht, hh, hta, words_nil (by rfl)]
theorem name_ne {l : List UInt8} (h : nameB l = true) : l ≠ [] := by
  rintro rfl
  revert h; decide
theorem cls (b : UInt8) : ((48 ≤ (b.toNat : Int) ∧ (b.toNat : Int) ≤ 57) ∨ (97 ≤ (b.toNat : Int) ∧ (b.toNat : Int) ≤ 122) ∨ (65 ≤ (b.toNat : Int) ∧ (b.toNat : Int) ≤ 90) ∨ (44 < (b.toNat : Int) ∧ (b.toNat : Int) < 46) ∨ (94 < (b.toNat : Int) ∧ (b.toNat : Int) < 96)) ∧ markB b = true ∨
    ((0 ≤ (b.toNat : Int) ∧ (b.toNat : Int) < 45) ∨ (45 < (b.toNat : Int) ∧ (b.toNat : Int) < 48) ∨ (57 < (b.toNat : Int) ∧ (b.toNat : Int) < 65) ∨ (90 < (b.toNat : Int) ∧ (b.toNat : Int) < 95) ∨ (95 < (b.toNat : Int) ∧ (b.toNat : Int) < 97) ∨ (122 < (b.toNat : Int) ∧ (b.toNat : Int) ≤ 255)) ∧ markB b = false := by
  have hb := b.toNat_lt
  cases hm : markB b with
  | true =>
    left
    refine ⟨?_, rfl⟩
    unfold markB letterB digitB at hm
    simp only [Bool.or_eq_true, Bool.and_eq_true, decide_eq_true_eq, beq_iff_eq] at hm
    have e45 : b = 45 → b.toNat = 45 := fun h => by rw [h]; rfl
    have e95 : b = 95 → b.toNat = 95 := fun h => by rw [h]; rfl
    rcases hm with (((h | h) | h) | h) | h
    · omega
    · omega
    · omega
    · have := e45 h; omega
    · have := e95 h; omega
  | false =>
    right
    refine ⟨?_, rfl⟩
    unfold markB letterB digitB at hm
    simp only [Bool.or_eq_false_iff, Bool.and_eq_false_iff, decide_eq_false_iff_not, beq_eq_false_iff_ne] at hm
    have e45 : b ≠ 45 → b.toNat ≠ 45 := fun h e => h (by rw [← UInt8.ofNat_toNat (x := b), e]; rfl)
    have e95 : b ≠ 95 → b.toNat ≠ 95 := fun h e => h (by rw [← UInt8.ofNat_toNat (x := b), e]; rfl)
    obtain ⟨⟨⟨⟨h1, h2⟩, h3⟩, h4⟩, h5⟩ := hm
    have := e45 h4
    have := e95 h5
    omega
set_option maxHeartbeats 4000000 in
theorem WordNames_core (s : ByteArray) (b : UInt8) (w : World) : Calls Try.prog 6 #[.string s, .int .u8 (b.toNat : Int)] w fun e w' => e = .returned (.bool true) ∧ Below w.heap.size w w' := by
  by_cases hs : 100 < s.size
  · go_enter Try.func6, Try.ntmps6
    go_wp2_with (go_at_call 19; refine (shown_calls _).mono ?_; rintro e w2 ⟨rfl, hb2⟩)
    go_ret
    exact ⟨rfl, hb2⟩
  · cases hn : nameB s.data.toList with
    | false =>
      have G1 : ∀ w, Calls Try.prog 25 #[.string s] w fun e w' => e = .returned (.bool false) ∧ w = w' := fun w => by have := Name_calls s w; rw [hn] at this; exact this
      clear hn
      have HG1 := Lib.hid G1; clear G1
      go_enter Try.func6, Try.ntmps6
      go_wp2_with (first
        | (go_at_call 19; refine (shown_calls _).mono ?_; rintro e w2 ⟨rfl, hb2⟩)
        | (go_at_call 25; with_reducible refine (HG1.out _).mono ?_; rintro e w5 ⟨rfl, rfl⟩))
      go_ret
      exact ⟨rfl, hb2⟩
    | true =>
      have hw1 : once (words s.data.toList) = [s.data.toList] := by
        rw [words_plain (name_no_blank hn) (name_ne hn)]; rfl
      have h20 : s.size ≤ 20 := by
        unfold nameB at hn
        simp only [Bool.and_eq_true, decide_eq_true_eq] at hn
        have := hn.1.1.2
        rwa [← Lib.size_eq] at this
      have htx : textB s.data.toList = true := by unfold textB; rw [decide_eq_true]; rw [← Lib.size_eq]; omega
      have hcv : ∀ W : World, (convert 23 9 (.slice (some ⟨W.heap.size, 0, none⟩) 1 1)).run Try.prog (W.alloc (.cells #[.int .u8 (b.toNat : Int)] 5)) = .ok (.string ⟨#[b]⟩) (W.alloc (.cells #[.int .u8 (b.toNat : Int)] 5)) := fun W => by
        have := run_convert_bytes_back (P := Try.prog) (W.alloc (.cells #[.int .u8 (b.toNat : Int)] 5)) 23 9 5 ⟨W.heap.size, 0, none⟩ 1 [b] Try.underlying23 Try.underlying5 Try.underlying9 (fun j hj => by
          have : j = 0 := by simp at hj; omega
          subst this
          exact cell_one_new W (.int .u8 (b.toNat : Int)) 5 0 _ rfl)
        exact this
      have hsn := name_snoc s.data.toList b hn
      rw [← Lib.size_eq] at hsn
      have hcat : (s ++ (⟨#[b]⟩ : ByteArray)).data.toList = s.data.toList ++ [b] := by
        rw [ByteArray.data_append]; simp
      rw [← hcat] at hsn
      have G1 : ∀ w, Calls Try.prog 25 #[.string s] w fun e w' => e = .returned (.bool true) ∧ w = w' := fun w => by have := Name_calls s w; rw [hn] at this; exact this
      have G2 : ∀ w, Calls Try.prog 26 #[.string s] w fun e w' => e = .returned (.bool true) ∧ w = w' := fun w => by have := Text_calls s w; rw [htx] at this; exact this
      have G3 : ∀ w, Calls Try.prog 23 #[.string s] w fun e w' => ∃ ad c, e = .returned (.slice (some ad) 1 c) ∧ w'.cell? ad = some (.string s) ∧ Below w.heap.size w w' := fun w => by
        have := WordHas.Tokens_calls s (by omega) w
        rw [hw1] at this
        refine this.mono ?_
        rintro e w1 ⟨v, rfl, hv, hb1⟩
        obtain ⟨A, c, rfl, hc1, hc2, hc3, hc4⟩ := hv
        obtain ⟨ad, rfl, had, hcell⟩ := hc4 (by simp)
        have hc0 := hcell 0 (str s.data.toList) rfl
        rw [show ad.add 0 = ad from if_pos rfl, show str s.data.toList = .string s from by unfold str; rw [Array.toArray_toList]] at hc0
        exact ⟨ad, c, rfl, hc0, hb1⟩
      clear hn hw1 htx hcat
      have hcl := cls b
      obtain ⟨nm, hnm⟩ : ∃ nm, nm = nameB (s ++ (⟨#[b]⟩ : ByteArray)).data.toList := ⟨_, rfl⟩
      have G4 : ∀ w, Calls Try.prog 25 #[.string (s ++ (⟨#[b]⟩ : ByteArray))] w fun e w' => e = .returned (.bool nm) ∧ w = w' := fun w => by rw [hnm]; exact Name_calls _ w
      rw [← hnm] at hsn
      clear hnm
      have HG1 := Lib.hid G1; have HG2 := Lib.hid G2; have HG3 := Lib.hid G3; have HG4 := Lib.hid G4
      clear G1 G2 G3 G4
      by_cases h19 : s.size < 20
      all_goals first | rw [decide_eq_true h19] at hsn | rw [decide_eq_false h19] at hsn
      all_goals
        rcases hcl with ⟨hcl, hm⟩ | ⟨hcl, hm⟩
        all_goals
          rw [hm] at hsn
          subst hsn
          clear hm
      all_goals
        rcases hcl with ⟨k1, k2⟩ | hcl
        rotate_left
        rcases hcl with ⟨k1, k2⟩ | hcl
        rotate_left
        rcases hcl with ⟨k1, k2⟩ | hcl
        rotate_left
        rcases hcl with ⟨k1, k2⟩ | hcl
        rotate_left
        try rcases hcl with ⟨k1, k2⟩ | hcl
      all_goals try obtain ⟨k1, k2⟩ := hcl
      all_goals
        have k3 : ((b.toNat : Int) == 45) = decide ((b.toNat : Int) = 45) := rfl
        have k4 : ((b.toNat : Int) == 95) = decide ((b.toNat : Int) = 95) := rfl
        first | rw [decide_eq_true (by omega)] at k3 | rw [decide_eq_false (by omega)] at k3
        first | rw [decide_eq_true (by omega)] at k4 | rw [decide_eq_false (by omega)] at k4
        go_enter Try.func6, Try.ntmps6
        go_wp2_with (first
          | (go_at_call 19; refine (shown_calls _).mono ?_; rintro e w2 ⟨rfl, hb2⟩)
          | (go_at_call 23; refine (HG3.out _).mono ?_; rintro e w3 ⟨ad, c, rfl, hc0, hb3⟩; have hc1 := cell_alloc hc0; clear hc0)
          | (go_at_call 25; with_reducible refine (HG1.out _).mono ?_; rintro e w5 ⟨rfl, rfl⟩)
          | (go_at_call 25; with_reducible refine (HG4.out _).mono ?_; rintro e w5 ⟨rfl, rfl⟩)
          | (go_at_call 26; with_reducible refine (HG2.out _).mono ?_; rintro e w5 ⟨rfl, rfl⟩))
        go_ret
        exact ⟨ret_bool (by first | rfl | (simp; done) | (simp; omega)), (bthen hb2 hb3).alloc (Nat.le_trans hb2.size hb3.size) _⟩
theorem WordNames_calls (s : ByteArray) (b : Int) (hb : (Lit.int .u8 b).wf = true) (w : World) : Calls Try.prog 6 #[.string s, .int .u8 b] w fun e w' => e = .returned (.bool true) ∧ Below w.heap.size w w' := by
  have := WordNames_core s (UInt8.ofNat b.toNat) w
  have h : 0 ≤ b ∧ b ≤ 255 := by
    simp only [Lit.wf, Bool.and_eq_true, decide_eq_true_eq] at hb
    exact hb
  rw [show ((UInt8.ofNat b.toNat).toNat : Int) = b by rw [UInt8.toNat_ofNat_of_lt' (by show b.toNat < 256; omega)]; omega] at this
  exact this
end Go.Proofs.Ytbbompmpecblgaa.WNames
