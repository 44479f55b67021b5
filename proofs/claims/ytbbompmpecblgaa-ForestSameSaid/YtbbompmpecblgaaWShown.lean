/- The statements of the layer word: what their functions answer. -/
import Derived.Test.YtbbompmpecblgaaWordHas
namespace Go.Proofs.Ytbbompmpecblgaa.WShown
open Go Go.RowKit Go.Proofs.Ytbbompmpecblgaa.WS Go.Proofs.Ytbbompmpecblgaa.WordIt Go.Proofs.Ytbbompmpecblgaa.Mem Go.Proofs.Ytbbompmpecblgaa.Word
set_option linter.unusedVariables false
set_option linter.unusedSimpArgs false

theorem tok0 : once (words [98, 32, 97, 32, 32, 98]) = [[98], [97]] := by
  rw [words, dif_neg (by decide), show headB (trimB [98, 32, 97, 32, 32, 98]) = [98] from by decide, show tailB (trimB [98, 32, 97, 32, 32, 98]) = [32, 97, 32, 32, 98] from by decide,
    words, dif_neg (by decide), show headB (trimB [32, 97, 32, 32, 98]) = [97] from by decide, show tailB (trimB [32, 97, 32, 32, 98]) = [32, 32, 98] from by decide,
    words, dif_neg (by decide), show headB (trimB [32, 32, 98]) = [98] from by decide, show tailB (trimB [32, 32, 98]) = [] from by decide, words, dif_pos (by decide)]
  decide
theorem has0 : (words [98, 32, 97]).contains [97] = true := by
  rw [words, dif_neg (by decide), show headB (trimB [98, 32, 97]) = [98] from by decide, show tailB (trimB [98, 32, 97]) = [32, 97] from by decide,
    words, dif_neg (by decide), show headB (trimB [32, 97]) = [97] from by decide, show tailB (trimB [32, 97]) = [] from by decide, words, dif_pos (by decide)]
  decide
theorem fold0 (w : World) : Calls Try.prog 24 #[.string ⟨#[65, 98]⟩] w fun e w' => e = .returned (.string ⟨#[97, 98]⟩) ∧ Below w.heap.size w w' :=
  (Fold_calls ⟨#[65, 98]⟩ (by decide) w).mono fun e w' ⟨he, hb⟩ => ⟨by rw [he, show (⟨#[65, 98]⟩ : ByteArray).data.map foldB = #[97, 98] from by apply Array.toList_inj.1; rw [Array.toList_map]; decide], hb⟩
theorem shown_calls (w : World) : Calls Try.prog 19 #[] w fun e w' => e = .returned (.bool true) ∧ Below w.heap.size w w' := by
  go_enter Try.func19, Try.ntmps19
  go_wp2_with fail
  refine (WordHas.Tokens_calls ⟨#[98, 32, 97, 32, 32, 98]⟩ (by decide) _).mono ?_
  rintro e w1 ⟨v, rfl, hv, hb1⟩
  have ht := tok0
  rw [show (⟨#[98, 32, 97, 32, 32, 98]⟩ : ByteArray).data.toList = [98, 32, 97, 32, 32, 98] from rfl, ht] at hv
  obtain ⟨A, c, rfl, hc1, hc2, hc3, hc4⟩ := hv
  obtain ⟨ad, rfl, had, hcell⟩ := hc4 (by simp)
  have hc0 := hcell 0 (str [98]) rfl
  unfold str at hc0
  rw [show ad.add 0 = ad from if_pos rfl] at hc0
  have Hb1 := Lib.hid hb1
  clear ht hc4 hcell hb1 hc3 had
  go_wp2_with (first
    | (go_at_call 21; refine (WordHas.Has_calls _ _ (by decide) _).mono ?_; rintro e w2 ⟨rfl, hb2⟩; rw [show (words (⟨#[98, 32, 97]⟩ : ByteArray).data.toList).contains (⟨#[97]⟩ : ByteArray).data.toList = true from has0])
    | (go_at_call 24; refine (fold0 _).mono ?_; rintro e w3 ⟨rfl, hb3⟩)
    | (go_at_call 26; refine (Text_calls _ _).mono ?_; rintro e w4 ⟨rfl, rfl⟩; rw [show textB (⟨#[]⟩ : ByteArray).data.toList = true from by decide])
    | (go_at_call 25; with_reducible refine (Name_calls ⟨#[97, 45, 49]⟩ _).mono ?_; rintro e w5 ⟨rfl, rfl⟩; rw [show nameB (⟨#[97, 45, 49]⟩ : ByteArray).data.toList = true from by decide])
    | (go_at_call 25; with_reducible refine (Name_calls ⟨#[49, 97]⟩ _).mono ?_; rintro e w6 ⟨rfl, rfl⟩; rw [show nameB (⟨#[49, 97]⟩ : ByteArray).data.toList = false from by decide]))
  go_ret
  exact ⟨rfl, (Hb1.out.trans (hb2.mono Hb1.out.size)).trans (hb3.mono (Nat.le_trans Hb1.out.size hb2.size))⟩

theorem foldB_twice (b : UInt8) : foldB (foldB b) = foldB b := by
  have key : ∀ n : Fin 256, foldB (foldB (UInt8.ofNat n.val)) = foldB (UInt8.ofNat n.val) := by decide +kernel
  have := key ⟨b.toNat, b.toNat_lt⟩
  simpa using this
theorem foldB_mark (b : UInt8) : markB (foldB b) = markB b ∧ letterB (foldB b) = letterB b := by
  have key : ∀ n : Fin 256, markB (foldB (UInt8.ofNat n.val)) = markB (UInt8.ofNat n.val) ∧ letterB (foldB (UInt8.ofNat n.val)) = letterB (UInt8.ofNat n.val) := by decide +kernel
  have := key ⟨b.toNat, b.toNat_lt⟩
  simpa using this
theorem name_fold (l : List UInt8) : nameB (l.map foldB) = nameB l := by
  unfold nameB
  congr 1
  · congr 1
    · simp
    · cases l with
      | nil => rfl
      | cons b l => simp [(foldB_mark b).2]
  · rw [List.all_map]
    congr 1
    funext b
    exact (foldB_mark b).1
set_option maxHeartbeats 800000 in
theorem WordFolds_calls (s : ByteArray) (w : World) : Calls Try.prog 4 #[.string s] w fun e w' => e = .returned (.bool true) ∧ Below w.heap.size w w' := by
  by_cases hs : 300 < s.size
  · go_enter Try.func4, Try.ntmps4
    go_wp2_with (go_at_call 19; refine (shown_calls _).mono ?_; rintro e w2 ⟨rfl, hb2⟩)
    go_ret
    exact ⟨rfl, hb2⟩
  · obtain ⟨t, ht⟩ : ∃ t : ByteArray, t = ⟨s.data.map foldB⟩ := ⟨_, rfl⟩
    have htl : t.data.toList = s.data.toList.map foldB := by rw [ht, Array.toList_map]
    have hts : t.size = s.size := by rw [Lib.size_eq, htl, List.length_map, ← Lib.size_eq]
    have htt : (⟨t.data.map foldB⟩ : ByteArray) = t := by
      apply ByteArray.ext
      apply Array.toList_inj.1
      rw [Array.toList_map, htl, List.map_map]
      congr 1
      funext b
      exact foldB_twice b
    have hn : nameB t.data.toList = nameB s.data.toList := by rw [htl, name_fold]
    have hsz : (s.size : Int) = (t.size : Int) := by rw [hts]
    have F1 : ∀ w, Calls Try.prog 24 #[.string s] w fun e w' => e = .returned (.string t) ∧ Below w.heap.size w w' := fun w => by rw [ht]; exact Fold_calls s (by omega) w
    have F2 : ∀ w, Calls Try.prog 24 #[.string t] w fun e w' => e = .returned (.string t) ∧ Below w.heap.size w w' := fun w => by
      have := Fold_calls t (by omega) w; rw [htt] at this; exact this
    have hl1 : ((t.size : Int) == (s.size : Int)) = true := by rw [hsz]; simp
    clear ht htl htt hsz
    generalize hnn : nameB s.data.toList = nn at *
    have Hn := Lib.hid hn; have Hnn := Lib.hid hnn; have Hts := Lib.hid hts
    have G1 : ∀ w, Calls Try.prog 25 #[.string s] w fun e w' => e = .returned (.bool nn) ∧ w = w' := fun w => by have := Name_calls s w; rw [hnn] at this; exact this
    have G2 : ∀ w, Calls Try.prog 25 #[.string t] w fun e w' => e = .returned (.bool nn) ∧ w = w' := fun w => by have := Name_calls t w; rw [hn] at this; exact this
    have HF1 := Lib.hid F1; have HF2 := Lib.hid F2; have HG1 := Lib.hid G1; have HG2 := Lib.hid G2
    clear hn hnn hts F1 F2 G1 G2
    go_enter Try.func4, Try.ntmps4
    go_wp2_with (first
      | (go_at_call 19; refine (shown_calls _).mono ?_; rintro e w2 ⟨rfl, hb2⟩)
      | (go_at_call 24; with_reducible refine (HF1.out _).mono ?_; rintro e w3 ⟨rfl, hb3⟩)
      | (go_at_call 24; with_reducible refine (HF2.out _).mono ?_; rintro e w4 ⟨rfl, hb4⟩)
      | (go_at_call 25; with_reducible refine (HG1.out _).mono ?_; rintro e w5 ⟨rfl, rfl⟩)
      | (go_at_call 25; with_reducible refine (HG2.out _).mono ?_; rintro e w5 ⟨rfl, rfl⟩))
    go_ret
    exact ⟨rfl, bthen (bthen hb2 hb3) hb4⟩
end Go.Proofs.Ytbbompmpecblgaa.WShown
