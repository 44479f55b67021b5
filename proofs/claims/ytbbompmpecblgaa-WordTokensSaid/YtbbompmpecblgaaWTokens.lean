/- WordTokens. -/
import Derived.Test.YtbbompmpecblgaaWJoins
import Derived.Test.YtbbompmpecblgaaWNames
import Derived.Test.YtbbompmpecblgaaRd
namespace Go.Proofs.Ytbbompmpecblgaa.WTokens
open Go Go.RowKit Go.Proofs.Ytbbompmpecblgaa.Seq Go.Proofs.Ytbbompmpecblgaa.WS Go.Proofs.Ytbbompmpecblgaa.WordIt Go.Proofs.Ytbbompmpecblgaa.Mem Go.Proofs.Ytbbompmpecblgaa.Rd Go.Proofs.Ytbbompmpecblgaa.Word Go.Proofs.Ytbbompmpecblgaa.WShown
set_option linter.unusedVariables false
set_option linter.unusedSimpArgs false

theorem RefLetter_calls (b : UInt8) (w : World) : Calls Try.prog 56 #[.int .u8 (b.toNat : Int)] w fun e w' => e = .returned (.bool (letterB b)) ∧ w = w' := by
  have hl : letterB b = ((decide (97 ≤ (b.toNat : Int)) && decide ((b.toNat : Int) ≤ 122)) || (decide (65 ≤ (b.toNat : Int)) && decide ((b.toNat : Int) ≤ 90))) := by
    unfold letterB
    rw [Bool.or_comm]
    congr 1 <;> congr 1 <;> (rw [decide_eq_decide]; omega)
  have H := Lib.hid hl; clear hl
  go_enter Try.func56, Try.ntmps56
  go_wp2
  all_goals
    go_ret
    refine ⟨ret_bool ?_, rfl⟩
    rw [H.out]
    rw [Bool.eq_iff_iff]
    simp
    try omega
/-- What a byte at place k of a name is. -/
def okB (k : Nat) (b : UInt8) : Bool := if k = 0 then letterB b else markB b
theorem letter_mark {b : UInt8} (h : letterB b = true) : markB b = true := by unfold markB; simp [h]
theorem name_of_ok {s : ByteArray} (h : ∀ j (hj : j < s.size), okB j s[j] = true) : nameB s.data.toList = (decide (1 ≤ s.size) && decide (s.size ≤ 20)) := by
  by_cases h0 : s.size = 0
  · have : s.data.toList = [] := by apply List.eq_nil_of_length_eq_zero; simpa using h0
    rw [this, h0]; decide
  · by_cases h20 : s.size ≤ 20
    · rw [name_all (by omega) h20 (by simpa [okB] using h 0 (by omega)) (fun j hj => by
        have := h j hj
        unfold okB at this
        split at this
        · exact letter_mark this
        · exact this)]
      simp; omega
    · unfold nameB
      rw [decide_eq_false (show ¬ s.data.toList.length ≤ 20 by simpa using h20), decide_eq_false h20]
      simp
theorem name_of_bad {s : ByteArray} {k : Nat} (hk : k < s.size) (h : okB k s[k] = false) : nameB s.data.toList = false := by
  unfold okB at h
  split at h
  · rename_i h0
    subst h0
    exact name_first hk h
  · exact name_not hk h
theorem mark_cls (b : UInt8) (h : letterB b = false) : ((48 ≤ (b.toNat : Int) ∧ (b.toNat : Int) ≤ 57) ∨ (44 < (b.toNat : Int) ∧ (b.toNat : Int) < 46) ∨ (94 < (b.toNat : Int) ∧ (b.toNat : Int) < 96)) ∧ markB b = true ∨
    (((b.toNat : Int) < 45) ∨ (45 < (b.toNat : Int) ∧ (b.toNat : Int) < 48) ∨ (57 < (b.toNat : Int) ∧ (b.toNat : Int) < 95) ∨ (95 < (b.toNat : Int))) ∧ markB b = false := by
  rcases WNames.cls b with ⟨h1, hm⟩ | ⟨h1, hm⟩
  · left
    refine ⟨?_, hm⟩
    have : ¬ (97 ≤ (b.toNat : Int) ∧ (b.toNat : Int) ≤ 122) ∧ ¬ (65 ≤ (b.toNat : Int) ∧ (b.toNat : Int) ≤ 90) := by
      unfold letterB at h
      simp at h
      omega
    omega
  · right
    exact ⟨by omega, hm⟩
set_option maxHeartbeats 2000000 in
theorem RefName_calls (s : ByteArray) (hs : s.size ≤ maxLen) (w : World) : Calls Try.prog 20 #[.string s] w fun e w' => e = .returned (.bool (nameB s.data.toList)) ∧ w = w' := by
  simp only [maxLen] at hs
  have hL := fun b w => RefLetter_calls b w
  have HL := Lib.hid hL; clear hL
  go_enter Try.func20, Try.ntmps20
  go_wp2
  go_loop [3] (fun i => ∃ k : Nat, k ≤ s.size ∧ i = .int .i64 k ∧ ∀ j (hj : j < s.size), j < k → okB j s[j] = true) (fun i => s.size - (intOf i).toNat)
  case atStart => exact ⟨0, Nat.zero_le _, rfl, fun j hj h => by omega⟩
  case round =>
    obtain ⟨k, hk, rfl, hall⟩ := hrel
    by_cases hlt : k < s.size
    · have hnext : okB k s[k] = true → ∀ j (hj : j < s.size), j < k + 1 → okB j s[j] = true := fun h j hj hjk => by
        by_cases e : j = k
        · subst e; exact h
        · exact hall j hj (by omega)
      have hbad := fun h => name_of_bad (s := s) hlt h
      have hll : ∀ w, Calls Try.prog 56 #[.int .u8 ((s[k]).toNat : Int)] w fun e w' => e = .returned (.bool (letterB s[k])) ∧ w = w' := fun w => HL.out _ w
      have hc := mark_cls s[k]
      clear HL
      cases hle : letterB s[k] with
      | true =>
        rw [hle] at hll
        have hok : okB k s[k] = true := by { unfold okB; split; { exact hle }; { exact letter_mark hle } }
        have Hn := Lib.hid (hnext hok); have HL := Lib.hid hll
        clear hnext hbad hll hc hle hall
        go_wp2_with (go_at_call 56; refine (HL.out _).mono ?_; rintro e w' ⟨rfl, rfl⟩)
        go_round
        case rel => exact ⟨k + 1, by omega, by go_num, Hn.out⟩
        case measure => simp [intOf]; omega
      | false =>
        rw [hle] at hll
        by_cases h0 : k = 0
        · subst h0
          have hbn := hbad (by unfold okB; rw [if_pos rfl]; exact hle)
          have HL := Lib.hid hll; have Hbn := Lib.hid hbn
          clear hnext hbad hll hc hle hall hbn
          go_wp2_with (go_at_call 56; refine (HL.out _).mono ?_; rintro e w' ⟨rfl, rfl⟩)
          go_ret
          exact ⟨ret_bool Hbn.out.symm, rfl⟩
        · have hk0 : ((k : Int) == 0) = false := by rw [beq_eq_false_iff_ne]; omega
          have HL := Lib.hid hll
          rcases hc hle with ⟨hin, hm⟩ | ⟨hin, hm⟩
          · have Hn := Lib.hid (hnext (by unfold okB; rw [if_neg h0]; exact hm))
            clear hnext hbad hll hc hle hall hm
            rcases hin with ⟨h1, h2⟩ | ⟨h1, h2⟩ | ⟨h1, h2⟩
            all_goals
              have k3 : (((s[k]).toNat : Int) == 45) = decide (((s[k]).toNat : Int) = 45) := rfl
              have k4 : (((s[k]).toNat : Int) == 95) = decide (((s[k]).toNat : Int) = 95) := rfl
              first | rw [decide_eq_true (by omega)] at k3 | rw [decide_eq_false (by omega)] at k3
              first | rw [decide_eq_true (by omega)] at k4 | rw [decide_eq_false (by omega)] at k4
              have k5 : (((s[k]).toNat : Int) != 45) = !(((s[k]).toNat : Int) == 45) := rfl
              have k6 : (((s[k]).toNat : Int) != 95) = !(((s[k]).toNat : Int) == 95) := rfl
              rw [k3] at k5
              rw [k4] at k6
              simp only [Bool.not_true, Bool.not_false] at k5 k6
              go_wp2_with (go_at_call 56; refine (HL.out _).mono ?_; rintro e w' ⟨rfl, rfl⟩)
              all_goals
                go_round
                case rel => exact ⟨k + 1, by omega, by go_num, Hn.out⟩
                case measure => simp [intOf]; omega
          · have hbn := hbad (by unfold okB; rw [if_neg h0]; exact hm)
            have Hbn := Lib.hid hbn
            clear hnext hbad hll hc hle hall hm hbn
            rcases hin with h1 | ⟨h1, h2⟩ | ⟨h1, h2⟩ | h1
            all_goals
              have k3 : (((s[k]).toNat : Int) == 45) = decide (((s[k]).toNat : Int) = 45) := rfl
              have k4 : (((s[k]).toNat : Int) == 95) = decide (((s[k]).toNat : Int) = 95) := rfl
              first | rw [decide_eq_true (by omega)] at k3 | rw [decide_eq_false (by omega)] at k3
              first | rw [decide_eq_true (by omega)] at k4 | rw [decide_eq_false (by omega)] at k4
              have k5 : (((s[k]).toNat : Int) != 45) = !(((s[k]).toNat : Int) == 45) := rfl
              have k6 : (((s[k]).toNat : Int) != 95) = !(((s[k]).toNat : Int) == 95) := rfl
              rw [k3] at k5
              rw [k4] at k6
              simp only [Bool.not_true, Bool.not_false] at k5 k6
              go_wp2_with (go_at_call 56; refine (HL.out _).mono ?_; rintro e w' ⟨rfl, rfl⟩)
              go_ret
              exact ⟨ret_bool Hbn.out.symm, rfl⟩
    · obtain rfl : k = s.size := by omega
      have hn := name_of_ok (s := s) (fun j hj => hall j hj hj)
      have Hn := Lib.hid hn; clear hn hall HL
      go_wp2
      all_goals
        go_ret
        refine ⟨ret_bool ?_, rfl⟩
        rw [Hn.out, Bool.eq_iff_iff]
        simp
        try omega

/-! The law. -/
def bl (by_ : List Int) (i : Nat) : ByteArray := if h : i < by_.length then ([⟨#[32]⟩, ⟨#[9]⟩, ⟨#[10]⟩, ⟨#[12]⟩, ⟨#[13]⟩, ⟨#[32, 32]⟩] : List ByteArray).getD (by_[i] % 6).toNat ⟨#[32]⟩ else ⟨#[32]⟩
theorem bl_blank (by_ : List Int) (i : Nat) : (∀ b ∈ (bl by_ i).data.toList, isBlank b = true) ∧ 1 ≤ (bl by_ i).size ∧ (bl by_ i).size ≤ 2 := by
  have key : ∀ k : Nat, (∀ b ∈ (([⟨#[32]⟩, ⟨#[9]⟩, ⟨#[10]⟩, ⟨#[12]⟩, ⟨#[13]⟩, ⟨#[32, 32]⟩] : List ByteArray).getD k ⟨#[32]⟩).data.toList, isBlank b = true) ∧ 1 ≤ (([⟨#[32]⟩, ⟨#[9]⟩, ⟨#[10]⟩, ⟨#[12]⟩, ⟨#[13]⟩, ⟨#[32, 32]⟩] : List ByteArray).getD k ⟨#[32]⟩).size ∧ (([⟨#[32]⟩, ⟨#[9]⟩, ⟨#[10]⟩, ⟨#[12]⟩, ⟨#[13]⟩, ⟨#[32, 32]⟩] : List ByteArray).getD k ⟨#[32]⟩).size ≤ 2 := by
    intro k
    match k with
    | 0 | 1 | 2 | 3 | 4 | 5 => decide
    | k + 6 => simp; decide
  unfold bl
  split
  · exact key _
  · decide
/-- The text so far. -/
def txt (l : List ByteArray) (by_ : List Int) : Nat → ByteArray
  | 0 => ⟨#[]⟩
  | i + 1 => txt l by_ i ++ bl by_ i ++ l.getD i ⟨#[]⟩ ++ bl by_ i
theorem words_blanks (u : List UInt8) (hu : ∀ b ∈ u, isBlank b = true) (t : List UInt8) : words (u ++ t) = words t := by
  have : trimB (u ++ t) = trimB t := by
    unfold trimB
    induction u with
    | nil => rfl
    | cons x u ih => rw [List.cons_append, List.dropWhile_cons, hu x (by simp)]; exact ih (fun b hb => hu b (by simp [hb]))
  by_cases h : trimB t = []
  · rw [words_nil h, words_nil (by rw [this, h])]
  · rw [words_cons h, words_cons (by rw [this]; exact h), this]
theorem words_sep (a u t : List UInt8) (hu : ∀ b ∈ u, isBlank b = true) (hne : u ≠ []) : words (a ++ (u ++ t)) = words a ++ words t := by
  cases u with
  | nil => exact absurd rfl hne
  | cons x u =>
    have hx := hu x (by simp)
    rw [List.cons_append, WJoins.words_blank_any x hx, words_blanks u (fun b hb => hu b (by simp [hb]))]
theorem txt_words (l : List ByteArray) (by_ : List Int) (i : Nat) (hi : i ≤ l.length) (hn : ∀ j (hj : j < l.length), j < i → nameB l[j].data.toList = true) :
    words (txt l by_ i).data.toList = (l.take i).map (·.data.toList) := by
  induction i with
  | zero => simp [txt]; exact words_nil rfl
  | succ i ih =>
    have hi' : i < l.length := by omega
    have hb := bl_blank by_ i
    have hne : (bl by_ i).data.toList ≠ [] := by
      intro h
      have := hb.2.1
      rw [Lib.size_eq, h] at this
      simp at this
    have e : (txt l by_ (i + 1)).data.toList = (txt l by_ i).data.toList ++ ((bl by_ i).data.toList ++ (l[i].data.toList ++ ((bl by_ i).data.toList ++ []))) := by
      simp only [txt]
      rw [ByteArray.data_append, ByteArray.data_append, ByteArray.data_append]
      simp [List.getD_eq_getElem?_getD, hi']
    have hnm := hn i hi' (by omega)
    rw [e, words_sep _ _ _ hb.1 hne, words_sep _ _ _ hb.1 hne, ih (by omega) (fun j hj hji => hn j hj (by omega)), WNames.words_plain (WNames.name_no_blank hnm) (WNames.name_ne hnm), words_nil (by rfl)]
    rw [List.take_succ_eq_append_getElem hi', List.map_append]
    simp
theorem txt_size (l : List ByteArray) (by_ : List Int) (i : Nat) (hi : i ≤ l.length) (hn : ∀ j (hj : j < l.length), j < i → nameB l[j].data.toList = true) : (txt l by_ i).size ≤ 24 * i := by
  induction i with
  | zero => exact Nat.le_refl _
  | succ i ih =>
    have hi' : i < l.length := by omega
    have hb := (bl_blank by_ i).2.2
    have := ih (by omega) (fun j hj hji => hn j hj (by omega))
    have h20 : l[i].size ≤ 20 := by
      have h := hn i hi' (by omega)
      unfold nameB at h
      simp only [Bool.and_eq_true, decide_eq_true_eq] at h
      have h := h.1.1.2
      rwa [← Lib.size_eq] at h
    have e : (l.getD i ⟨#[]⟩).size = l[i].size := by simp [List.getD_eq_getElem?_getD, hi']
    simp only [txt, ByteArray.size_append, e]
    omega
end Go.Proofs.Ytbbompmpecblgaa.WTokens
