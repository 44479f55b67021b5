/- The contracts of the package word's plain functions: letter, Text, Name, Fold. -/
import Derived.Test.YtbbompmpecblgaaProg
import Derived.Test.YtbbompmpecblgaaWSpec
import Derived.Test.YtbbompmpecblgaaShelfA
import Derived.Below
import Derived.OwnWalk
import Derived.Tactics
import Derived.Laws.IdiomStrings
import Derived.WalkKit
import Derived.KernelRfl
import Derived.RowKit3
import Derived.LoopTactic
import Derived.Outline
import Derived.Lib.Hide
namespace Go.Proofs.Ytbbompmpecblgaa.Word
open Go Go.RowKit Go.Proofs.Ytbbompmpecblgaa.WS
set_option linter.unusedVariables false
set_option linter.unusedSimpArgs false

theorem or32 (b : UInt8) : Go.bits .or .u8 (b.toNat : Int) 32 = ((b ||| 32).toNat : Int) := by
  have key : ∀ n : Fin 256, Go.bits .or .u8 (n.val : Int) 32 = (((UInt8.ofNat n.val) ||| 32).toNat : Int) := by decide +kernel
  have := key ⟨b.toNat, b.toNat_lt⟩
  simpa using this
theorem letter32 (b : UInt8) : letterB b = (decide (97 ≤ ((b.toNat ||| 32 : Nat) : Int)) && decide (((b.toNat ||| 32 : Nat) : Int) ≤ 122)) := by
  have key : ∀ n : Fin 256, letterB (UInt8.ofNat n.val) = (decide (97 ≤ (((UInt8.ofNat n.val).toNat ||| 32 : Nat) : Int)) && decide ((((UInt8.ofNat n.val).toNat ||| 32 : Nat) : Int) ≤ 122)) := by decide +kernel
  have := key ⟨b.toNat, b.toNat_lt⟩
  simpa using this
theorem ret_bool {a b : Bool} (h : a = b) : Ending.returned (.bool a) = .returned (.bool b) := by rw [h]
theorem letter_calls (b : UInt8) (w : World) : Calls Try.prog 58 #[.int .u8 (b.toNat : Int)] w fun e w' => e = .returned (.bool (letterB b)) ∧ w = w' := by
  have hb := or32 b
  go_enter Try.func58, Try.ntmps58
  go_wp2
  · have h : (97 : Int) ≤ ((b.toNat ||| 32 : Nat) : Int) := by assumption
    go_ret
    exact ⟨ret_bool (by rw [letter32, decide_eq_true h]; rfl), rfl⟩
  · have h : ((b.toNat ||| 32 : Nat) : Int) < 97 := by assumption
    go_ret
    exact ⟨ret_bool (by rw [letter32, decide_eq_false (by omega)]; rfl), rfl⟩
theorem Text_calls (s : ByteArray) (w : World) : Calls Try.prog 26 #[.string s] w fun e w' => e = .returned (.bool (textB s.data.toList)) ∧ w = w' := by
  go_enter Try.func26, Try.ntmps26
  go_wp2
  go_ret
  exact ⟨ret_bool (by unfold textB; simp; omega), rfl⟩
theorem mark_index (b : UInt8) (h : letterB b = false) : decide (Lib.indexByte [48, 49, 50, 51, 52, 53, 54, 55, 56, 57, 45, 95] b < 0) = !markB b := by
  have key : ∀ n : Fin 256, letterB (UInt8.ofNat n.val) = false → decide (Lib.indexByte [48, 49, 50, 51, 52, 53, 54, 55, 56, 57, 45, 95] (UInt8.ofNat n.val) < 0) = !markB (UInt8.ofNat n.val) := by decide +kernel
  have := key ⟨b.toNat, b.toNat_lt⟩
  simpa using this (by simpa using h)
theorem name_first {s : ByteArray} (h : 0 < s.size) (hl : letterB s[0] = false) : nameB s.data.toList = false := by
  have e : s.data.toList.head? = some s[0] := by
    rw [List.head?_eq_getElem?, List.getElem?_eq_getElem (by simpa using h)]; rfl
  unfold nameB
  rw [e]; simp [hl]
theorem name_all {s : ByteArray} (h : 0 < s.size) (h20 : s.size ≤ 20) (hl : letterB s[0] = true) (hm : ∀ j (hj : j < s.size), markB s[j] = true) : nameB s.data.toList = true := by
  have e : s.data.toList.head? = some s[0] := by
    rw [List.head?_eq_getElem?, List.getElem?_eq_getElem (by simpa using h)]; rfl
  have ha : s.data.toList.all markB = true := List.all_eq_true.2 fun x hx => by
    obtain ⟨j, hj, rfl⟩ := List.mem_iff_getElem.1 hx
    exact hm j (by simpa using hj)
  unfold nameB
  rw [e, ha, decide_eq_true (show 1 ≤ s.data.toList.length by simp; omega), decide_eq_true (by simpa using h20)]
  simp [hl]
theorem name_not {s : ByteArray} {j : Nat} (hj : j < s.size) (hm : markB s[j] = false) : nameB s.data.toList = false := by
  unfold nameB
  rw [Bool.and_eq_false_iff]
  right
  rw [List.all_eq_false]
  exact ⟨s[j], by rw [List.mem_iff_getElem]; exact ⟨j, by simpa using hj, by simp; rfl⟩, by simp [hm]⟩
theorem Name_calls (s : ByteArray) (w : World) : Calls Try.prog 25 #[.string s] w fun e w' => e = .returned (.bool (nameB s.data.toList)) ∧ w = w' := by
  by_cases h0 : s.size = 0
  · have hl : s.data.toList = [] := by apply List.eq_nil_of_length_eq_zero; simpa using h0
    have he : s.toList.isEmpty = true := by simp [Lib.toList_data, hl]
    have H := Lib.hid hl; clear hl h0
    go_enter Try.func25, Try.ntmps25
    go_wp2
    go_ret
    exact ⟨ret_bool (by rw [H.out]; rfl), rfl⟩
  · have he : s.toList.isEmpty = false := by simp [Lib.toList_data, List.isEmpty_eq_false_iff]; intro h; apply h0; simp [← ByteArray.size_data, h]
    have hpos : 0 < s.size := by omega
    by_cases h20 : 20 < s.size
    · go_enter Try.func25, Try.ntmps25
      go_wp2
      go_ret
      exact ⟨ret_bool (by unfold nameB; simp; intros; omega), rfl⟩
    · cases hl0 : letterB s[0] with
      | false =>
        have H := Lib.hid hl0
        go_enter Try.func25, Try.ntmps25
        go_wp2_with (go_at_call 58; refine (letter_calls _ _).mono ?_; rintro e w' ⟨rfl, rfl⟩; rw [hl0])
        go_ret
        exact ⟨ret_bool (name_first hpos H.out).symm, rfl⟩
      | true =>
        have H := Lib.hid hl0
        go_enter Try.func25, Try.ntmps25
        go_wp2_with (go_at_call 58; refine (letter_calls _ _).mono ?_; rintro e w' ⟨rfl, rfl⟩; rw [hl0])
        go_loop [20] (fun i => ∃ k : Nat, k ≤ s.size ∧ i = .int .i64 k ∧ Hid (∀ j (hj : j < s.size), j < k → markB s[j] = true)) (fun i => s.size - (intOf i).toNat)
        case atStart => exact ⟨0, Nat.zero_le _, rfl, fun j _ h => absurd h (Nat.not_lt_zero _)⟩
        case round =>
          obtain ⟨k, hk, rfl, hm⟩ := hrel
          by_cases hlt : k < s.size
          · cases hl1 : letterB s[k] with
            | true =>
              go_wp2_with (go_at_call 58; refine (letter_calls _ _).mono ?_; rintro e w' ⟨rfl, rfl⟩; rw [hl1])
              go_round
              case rel => exact ⟨k + 1, by omega, by go_num, fun j hj h => by
                rcases Nat.lt_or_ge j k with h1 | h1
                · exact hm.out j hj h1
                · obtain rfl : j = k := by omega
                  unfold markB; rw [hl1]; rfl⟩
              case measure => simp [intOf]; omega
            | false =>
              have hix := mark_index s[k] hl1
              cases hmk : markB s[k] with
              | true =>
                rw [hmk] at hix
                have Hmk := Lib.hid hmk; clear hmk
                go_wp2_with (first
                  | (go_at_call 58; refine (letter_calls _ _).mono ?_; rintro e w' ⟨rfl, rfl⟩; rw [hl1])
                  | (go_at_call 59; refine (Try.strings_IndexByte _ _ _).mono ?_; rintro e w' ⟨rfl, rfl⟩))
                go_round
                case rel => exact ⟨k + 1, by omega, by go_num, fun j hj h => by
                  rcases Nat.lt_or_ge j k with h1 | h1
                  · exact hm.out j hj h1
                  · obtain rfl : j = k := by omega
                    exact Hmk.out⟩
                case measure => simp [intOf]; omega
              | false =>
                rw [hmk] at hix
                have Hmk := Lib.hid hmk; clear hmk
                go_wp2_with (first
                  | (go_at_call 58; refine (letter_calls _ _).mono ?_; rintro e w' ⟨rfl, rfl⟩; rw [hl1])
                  | (go_at_call 59; refine (Try.strings_IndexByte _ _ _).mono ?_; rintro e w' ⟨rfl, rfl⟩))
                go_ret
                exact ⟨ret_bool (name_not hlt Hmk.out).symm, rfl⟩
          · go_wp2
            go_ret
            exact ⟨ret_bool (name_all hpos (by omega) H.out (fun j hj => hm.out j hj (by omega))).symm, rfl⟩
theorem foldB_or (b : UInt8) (h1 : 65 ≤ (b.toNat : Int)) (h2 : (b.toNat : Int) ≤ 90) : Go.bits .or .u8 (b.toNat : Int) 32 = ((foldB b).toNat : Int) := by
  have hb : foldB b = b ||| 32 := by unfold foldB; rw [if_pos ⟨by omega, by omega⟩]
  rw [hb]
  have key : ∀ n : Fin 256, 65 ≤ n.val → n.val ≤ 90 → Go.bits .or .u8 (n.val : Int) 32 = (((UInt8.ofNat n.val) ||| 32).toNat : Int) := by decide +kernel
  have := key ⟨b.toNat, b.toNat_lt⟩ (by show 65 ≤ b.toNat; omega) (by show b.toNat ≤ 90; omega)
  simpa using this
theorem foldB_same (b : UInt8) (h : ¬ (65 ≤ (b.toNat : Int) ∧ (b.toNat : Int) ≤ 90)) : foldB b = b := by unfold foldB; rw [if_neg (by omega)]
def FoldRow (s : ByteArray) (b k : Nat) (wr : World) : Prop :=
  ∃ C lo, wr.heap[b]? = some (.cells C 5 (lo, lo + 1)) ∧ s.size ≤ lo ∧ ∀ j (hj : j < s.size), C[j]? = some (.int .u8 ((if j < k then foldB s.data[j] else s.data[j]).toNat : Int))
theorem FoldRow.cell {s : ByteArray} {b k : Nat} {wr : World} (h : FoldRow s b k wr) (hk : k < s.size) : wr.cell? ⟨b, k, none⟩ = some (.int .u8 (s.data[k]).toNat) := by
  obtain ⟨C, lo, hb, hl, hc⟩ := h
  simp [World.cell?, hb, hc k hk]
theorem FoldRow.frozen {s : ByteArray} {b k : Nat} {wr : World} (h : FoldRow s b k wr) (hk : k < s.size) : wr.frozen? ⟨b, k, none⟩ = false := by
  obtain ⟨C, lo, hb, hl, hc⟩ := h
  simp [World.frozen?, hb]; omega
theorem FoldRow.step {s : ByteArray} {b k : Nat} {wr : World} (h : FoldRow s b k wr) (hk : k < s.size) (v : Int) (hv : v = (foldB s.data[k]).toNat) : FoldRow s b (k + 1) (wr.setCell ⟨b, k, none⟩ (.int .u8 v)) := by
  subst hv
  obtain ⟨C, lo, hb, hl, hc⟩ := h
  refine ⟨C.setIfInBounds k (.int .u8 (foldB s.data[k]).toNat), lo, ?_, hl, fun j hj => ?_⟩
  · simp only [World.setCell, Array.getElem?_modify, hb]; simp
  · have hk' := (Array.getElem?_eq_some_iff.1 (hc k hk)).1
    by_cases e : k = j
    · subst e; simp [Array.getElem?_setIfInBounds, hk']
    · rw [Array.getElem?_setIfInBounds_ne e, hc j hj]
      by_cases h1 : j < k
      · rw [if_pos h1, if_pos (show j < k + 1 by omega)]
      · rw [if_neg h1, if_neg (show ¬ j < k + 1 by omega)]
theorem FoldRow.same {s : ByteArray} {b k : Nat} {wr : World} (h : FoldRow s b k wr) (hk : k < s.size) (e : foldB s.data[k] = s.data[k]) : FoldRow s b (k + 1) wr := by
  obtain ⟨C, lo, hb, hl, hc⟩ := h
  refine ⟨C, lo, hb, hl, fun j hj => ?_⟩
  rw [hc j hj]
  by_cases h1 : j = k
  · subst h1; rw [if_neg (show ¬ j < j by omega), if_pos (show j < j + 1 by omega), e]
  · by_cases h2 : j < k
    · rw [if_pos h2, if_pos (show j < k + 1 by omega)]
    · rw [if_neg h2, if_neg (show ¬ j < k + 1 by omega)]
theorem FoldRow.back {s : ByteArray} {b : Nat} {wr : World} (h : FoldRow s b s.size wr) (P : Program) (src dst e : TypeId) (cap : Nat) (hs : P.underlying src = some (.slice e)) (he : P.underlying e = some (.int .u8)) (hd : P.underlying dst = some .string) :
    (convert src dst (.slice (some ⟨b, 0, none⟩) s.size cap)).run P wr = .ok (.string ⟨s.data.map foldB⟩) wr := by
  obtain ⟨C, lo, hb, hl, hc⟩ := h
  have := run_convert_bytes_back (P := P) wr src dst e ⟨b, 0, none⟩ cap (s.data.map foldB).toList hs he hd (fun j hj => by
    have hj' : j < s.size := by simpa using hj
    have ha : (⟨b, 0, none⟩ : Addr).add j = ⟨b, j, none⟩ := by unfold Addr.add; split <;> simp_all
    rw [ha]; simp [World.cell?, hb, hc j hj', hj'])
  have e1 : (s.data.map foldB).toList.toArray = s.data.map foldB := Array.toArray_toList
  have e2 : (s.data.map foldB).toList.length = s.size := by simp
  rw [e1, e2] at this
  exact this
set_option maxHeartbeats 800000 in
theorem Fold_calls (a0 : ByteArray) (hs : a0.size < 4294967281) (w : World) : Calls Try.prog 24 #[.string a0] w fun e w' => e = .returned (.string ⟨a0.data.map foldB⟩) ∧ Below w.heap.size w w' := by
  have hcv := fun (W : World) => run_bytes_of_string (P := Try.prog) W 9 23 5 a0 Try.underlying9 Try.underlying23 Try.underlying5
  go_enter Try.func24, Try.ntmps24
  go_wp2
  clear hcv
  go_loopw [10] (fun i wr => ∃ k : Nat, k ≤ a0.size ∧ i = .int .i64 k ∧ FoldRow a0 w.heap.size k wr ∧ Below w.heap.size w wr) (fun i _ => a0.size - (intOf i).toNat)
  case atStart => 
    refine ⟨0, Nat.zero_le _, rfl, ⟨bytesRow a0 (grownCap w a0.size 0 5), (bytesRow a0 (grownCap w a0.size 0 5)).size, ?_, ?_, fun j hj => ?_⟩, ((Below.refl _ w).alloc (Nat.le_refl _) _).drew⟩
    · simp [World.alloc, World.drew, -World.alloc_eq, -World.drew_eq]
    · simp only [bytesRow, Array.size_append, Array.size_map, Array.size_replicate]; show a0.data.size ≤ _; omega
    · have : j < a0.data.size := hj
      simp only [bytesRow]
      rw [Array.getElem?_append_left (by simpa using this)]
      rw [Array.getElem?_map, Array.getElem?_eq_getElem this]; simp
  case round =>
    obtain ⟨k, hk, rfl, hr, hb⟩ := hrel
    by_cases hlt : k < a0.size
    · have hc := hr.cell hlt
      have hf := hr.frozen hlt
      have H := Lib.hid hr; clear hr
      go_wp2
      all_goals go_roundw
      case measure => simp [intOf]; omega
      case rel h1 h2 => exact ⟨k + 1, by omega, by go_num, H.out.step hlt _ (foldB_or _ h1 h2), hb.setCell (Nat.le_refl _) _⟩
      case measure => simp [intOf]; omega
      case rel h1 h2 => exact ⟨k + 1, by omega, by go_num, H.out.same hlt (foldB_same _ (by omega)), hb⟩
      case measure => simp [intOf]; omega
      case rel h1 => exact ⟨k + 1, by omega, by go_num, H.out.same hlt (foldB_same _ (by omega)), hb⟩
    · obtain rfl : k = a0.size := by omega
      have hbk := hr.back Try.prog 23 9 5 (grownCap w a0.size 0 5) Try.underlying23 Try.underlying5 Try.underlying9
      go_wp2
      go_ret
      exact ⟨rfl, hb⟩
end Go.Proofs.Ytbbompmpecblgaa.Word
