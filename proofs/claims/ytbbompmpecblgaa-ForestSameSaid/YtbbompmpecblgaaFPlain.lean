/- (Node).plain. -/
import Derived.Test.YtbbompmpecblgaaFAttr
namespace Go.Proofs.Ytbbompmpecblgaa.FPlain
open Go Go.RowKit Go.Proofs.Ytbbompmpecblgaa.Seq Go.Proofs.Ytbbompmpecblgaa.WS Go.Proofs.Ytbbompmpecblgaa.FS Go.Proofs.Ytbbompmpecblgaa.WordIt Go.Proofs.Ytbbompmpecblgaa.Mem Go.Proofs.Ytbbompmpecblgaa.Rd Go.Proofs.Ytbbompmpecblgaa.Word Go.Proofs.Ytbbompmpecblgaa.WordHas Go.Proofs.Ytbbompmpecblgaa.Shapes
set_option linter.unusedVariables false
set_option linter.unusedSimpArgs false

theorem empty_iff (s : ByteArray) : s.toList.isEmpty = decide (s.size = 0) := by
  rw [Bool.eq_iff_iff, Lib.toList_data, List.isEmpty_iff, decide_eq_true_eq, Lib.size_eq]
  exact List.length_eq_zero_iff.symm
theorem len0 {α : Type} (l : List α) : decide (l = ([] : List α)) = decide (l.length = 0) := by
  rw [decide_eq_decide]; exact List.length_eq_zero_iff.symm
set_option maxRecDepth 100000 in
set_option maxHeartbeats 4000000 in
theorem plain_calls (w : World) (kind parent : Int) (name text : ByteArray) (attrs : List Av) (kids : List Int) (va vk : Value) (ha : RdL attrE 2 w.heap.size w va attrs) (hk : RdL (intE .i64) 1 w.heap.size w vk kids) :
    Calls Try.prog 65 #[.agg #[.int .i64 kind, .string name, .string text, va, .int .i64 parent, vk]] w fun e w' => e = .returned (.bool (plainB ⟨kind, name, text, attrs, parent, kids⟩)) ∧ Below w.heap.size w w' := by
  have HA := Lib.hid (fun w' hb => ha.below attrE_keeps (w' := w') hb (Nat.le_refl _))
  obtain ⟨A0, c0, rfl, hl0, hc0, _⟩ := ha.form
  obtain ⟨A1, c1, rfl, hl1, hc1, _⟩ := hk.form
  clear ha hk
  have hat : ∀ w1, Below w.heap.size w w1 → Calls Try.prog 87 #[.slice A0 attrs.length c0] w1 fun e w' => e = .returned (.bool (attrsB attrs)) ∧ Below w1.heap.size w1 w' := fun w1 hb =>
    FAttr.attributes_calls w1 _ _ ((HA.out w1 hb).mono attrE_keeps hb.size)
  have Hat := Lib.hid hat; clear hat
  have e2 : (kind == 2) = decide (kind = 2) := rfl
  have e3 : (kind == 3) = decide (kind = 3) := rfl
  have e0 : (kind == 0) = decide (kind = 0) := rfl
  have e1 : (kind == 1) = decide (kind = 1) := rfl
  have n0 := empty_iff name
  have t0 := empty_iff text
  have a0 := len0 attrs
  have k0 := len0 kids
  have hN : ∀ w, Calls Try.prog 25 #[.string name] w fun e w' => e = .returned (.bool (nameB name.data.toList)) ∧ w = w' := fun w => Name_calls _ w
  have hT : ∀ w, Calls Try.prog 26 #[.string text] w fun e w' => e = .returned (.bool (textB text.data.toList)) ∧ w = w' := fun w => Text_calls _ w
  have HN := Lib.hid hN; have HT := Lib.hid hT
  clear hN hT
  have hcase : kind = 0 ∨ kind = 1 ∨ (kind = 2 ∨ kind = 3) ∨ (kind ≠ 0 ∧ kind ≠ 1 ∧ kind ≠ 2 ∧ kind ≠ 3) := by omega
  have hp : plainB ⟨kind, name, text, attrs, parent, kids⟩ = if kind = 0 then decide (name.size = 0) && decide (text.size = 0) && decide (attrs.length = 0) else if kind = 1 then nameB name.data.toList && decide (text.size = 0) && attrsB attrs
      else if kind = 2 ∨ kind = 3 then decide (name.size = 0) && textB text.data.toList && decide (attrs.length = 0) && decide (kids.length = 0) else false := by
    unfold plainB; rw [a0, k0]
  rw [hp]
  clear hp a0 k0
  rcases hcase with rfl | rfl | h | ⟨h0, h1, h2, h3⟩
  · clear e0 e1 e2 e3
    rw [if_pos rfl]
    go_enter Try.func65, Try.ntmps65
    go_wp2
    all_goals
      go_ret
      refine ⟨ret_bool ?_, (Below.refl _ _).alloc (Nat.le_refl _) _⟩
      rw [Bool.eq_iff_iff]
      simp_all
  · clear e0 e1 e2 e3
    rw [if_neg (by decide), if_pos rfl]
    generalize hnn : nameB name.data.toList = nn at *
    have Hnn := Lib.hid hnn; clear hnn
    go_enter Try.func65, Try.ntmps65
    go_wp2_with (first
      | (go_at_call 25; refine (HN.out _).mono ?_; rintro e w5 ⟨rfl, rfl⟩)
      | (go_at_call 87; refine (Hat.out _ ((Below.refl _ _).alloc (Nat.le_refl _) _)).mono ?_; rintro e w6 ⟨rfl, hb6⟩; have Hb6 := Lib.hid hb6; clear hb6))
    all_goals
      go_ret
      refine ⟨ret_bool ?_, by first | exact bthen ((Below.refl _ _).alloc (Nat.le_refl _) _) Hb6.out | exact (Below.refl _ _).alloc (Nat.le_refl _) _⟩
      rw [Bool.eq_iff_iff]
      simp_all
  · have h0 : kind ≠ 0 := by omega
    have h1 : kind ≠ 1 := by omega
    rw [if_neg h0, if_neg h1, if_pos h]
    rw [decide_eq_false h0] at e0
    rw [decide_eq_false h1] at e1
    generalize htt : textB text.data.toList = tt at *
    have Htt := Lib.hid htt; clear htt
    rcases h with rfl | rfl
    all_goals
      clear e0 e1 e2 e3 h0 h1
      go_enter Try.func65, Try.ntmps65
      go_wp2_with (go_at_call 26; refine (HT.out _).mono ?_; rintro e w5 ⟨rfl, rfl⟩)
      all_goals
        go_ret
        refine ⟨ret_bool ?_, by first | exact ((Below.refl _ _).alloc (Nat.le_refl _) _).setCell (by simp) _ | exact (Below.refl _ _).alloc (Nat.le_refl _) _⟩
        rw [Bool.eq_iff_iff]
        simp_all
        try (intro _ _ hkk; subst hkk; simp at *)
  · rw [if_neg h0, if_neg h1, if_neg (by omega)]
    rw [decide_eq_false h0] at e0
    rw [decide_eq_false h1] at e1
    rw [decide_eq_false h2] at e2
    rw [decide_eq_false h3] at e3
    go_enter Try.func65, Try.ntmps65
    go_wp2
    go_ret
    exact ⟨rfl, (Below.refl _ _).alloc (Nat.le_refl _) _⟩
end Go.Proofs.Ytbbompmpecblgaa.FPlain
