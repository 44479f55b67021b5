/- Joined by a program: R6M. -/
import Derived.Test.YthdenkkllpkplaaGreatC14
section
/- treillageref06: has, in, May. -/
namespace Go.Proofs.YthdenkkllpkplaaGreat.R6
open Go Go.RowKit Go.Proofs.YthdenkkllpkplaaGreat.WS Go.Proofs.YthdenkkllpkplaaGreat.FS Go.Proofs.YthdenkkllpkplaaGreat.Word Go.Proofs.YthdenkkllpkplaaGreat.Shapes
set_option linter.unusedVariables false
set_option linter.unusedSimpArgs false
def hasS (k : Int) : ByteArray := if k = 1 then (⟨#[110]⟩ : ByteArray) else if k = 2 ∨ k = 3 then (⟨#[120]⟩ : ByteArray) else if k = 4 then (⟨#[105, 116, 97]⟩ : ByteArray) else if k = 5 then (⟨#[105]⟩ : ByteArray) else if k = 6 then (⟨#[105, 110, 120]⟩ : ByteArray) else if k = 7 then (⟨#[105, 110]⟩ : ByteArray) else if k = 8 then (⟨#[105, 120]⟩ : ByteArray) else ⟨#[]⟩
set_option maxRecDepth 100000 in
theorem has_calls (k : Int) (w : World) : Calls Tryz.prog 130 #[.int .i64 k] w fun e w' => e = .returned (.string (hasS k)) ∧ w = w' := by
  by_cases hk : 1 ≤ k ∧ k ≤ 8
  · have : k = 1 ∨ k = 2 ∨ k = 3 ∨ k = 4 ∨ k = 5 ∨ k = 6 ∨ k = 7 ∨ k = 8 := by omega
    rcases this with rfl | rfl | rfl | rfl | rfl | rfl | rfl | rfl
    all_goals
      go_enter Tryz.func130, Tryz.ntmps130
      go_wp2_with fail
      go_ret
      exact ⟨rfl, rfl⟩
  · have hs : hasS k = ⟨#[]⟩ := by unfold hasS; repeat (rw [if_neg (by omega)])
    rw [hs]
    have k1 : (k == 1) = false := by rw [beq_eq_false_iff_ne]; omega
    have k2 : (k == 2) = false := by rw [beq_eq_false_iff_ne]; omega
    have k3 : (k == 3) = false := by rw [beq_eq_false_iff_ne]; omega
    have k4 : (k == 4) = false := by rw [beq_eq_false_iff_ne]; omega
    have k5 : (k == 5) = false := by rw [beq_eq_false_iff_ne]; omega
    have k6 : (k == 6) = false := by rw [beq_eq_false_iff_ne]; omega
    have k7 : (k == 7) = false := by rw [beq_eq_false_iff_ne]; omega
    have k8 : (k == 8) = false := by rw [beq_eq_false_iff_ne]; omega
    clear hs hk
    go_enter Tryz.func130, Tryz.ntmps130
    go_wp2_with fail
    go_ret
    exact ⟨rfl, rfl⟩
def inB (s : ByteArray) (b : UInt8) : Bool := s.data.toList.any (fun x => x.toNat == b.toNat)
set_option maxRecDepth 100000 in
theorem in_calls (s : ByteArray) (hs : s.size ≤ 9223372036854775807) (b : UInt8) (w : World) : Calls Tryz.prog 131 #[.string s, .int .u8 (b.toNat : Int)] w fun e w' => e = .returned (.bool (inB s b)) ∧ w = w' := by
  obtain ⟨R, hR⟩ : ∃ R, R = inB s b := ⟨_, rfl⟩
  rw [← hR]
  have hyes : ∀ k (hk : k < s.size), s[k].toNat = b.toNat → R = true := fun k hk hx => by
    rw [hR]
    unfold inB
    rw [List.any_eq_true]
    exact ⟨s[k], by rw [List.mem_iff_getElem]; exact ⟨k, by simpa using hk, by simp; rfl⟩, by rw [beq_iff_eq]; exact hx⟩
  have hnon : (∀ j (hj : j < s.size), s[j].toNat ≠ b.toNat) → R = false := fun h => by
    rw [hR]
    unfold inB
    rw [List.any_eq_false]
    intro x hx e
    obtain ⟨j, hj, rfl⟩ := List.mem_iff_getElem.1 hx
    rw [beq_iff_eq] at e
    exact h j (by simpa using hj) e
  have Hyes := Lib.hid hyes; have Hnon := Lib.hid hnon
  clear hyes hnon hR
  generalize b.toNat = m at *
  go_enter Tryz.func131, Tryz.ntmps131
  go_wp2_with fail
  go_loop [5] (fun i => ∃ k : Nat, k ≤ s.size ∧ i = .int .i64 k ∧ Hid (∀ j (hj : j < s.size), j < k → s[j].toNat ≠ m)) (fun i => s.size - (intOf i).toNat)
  case atStart => exact ⟨0, Nat.zero_le _, rfl, Lib.hid (fun j _ h => absurd h (Nat.not_lt_zero _))⟩
  case round =>
    obtain ⟨k, hk, rfl, hno⟩ := hrel
    by_cases hlt : k < s.size
    · by_cases hx : s[k].toNat = m
      · have Hr := Lib.hid (Hyes.out k hlt hx)
        have h1 : ((s[k].toNat : Int) == (m : Int)) = true := by rw [beq_iff_eq, hx]
        clear hno hx
        go_wp2_with fail
        go_ret
        exact ⟨ret_bool Hr.out.symm, rfl⟩
      · have hn : ∀ j (hj : j < s.size), j < k + 1 → s[j].toNat ≠ m := fun j hj h => by
          rcases Nat.lt_or_ge j k with h3 | h3
          · exact hno.out j hj h3
          · obtain rfl : j = k := by omega
            exact hx
        have Hn := Lib.hid hn
        have h1 : ((s[k].toNat : Int) == (m : Int)) = false := by rw [beq_eq_false_iff_ne]; omega
        clear hn hno hx
        go_wp2_with fail
        go_round
        case rel => exact ⟨k + 1, by omega, by go_num, Hn⟩
        case measure => simp [intOf]; omega
    · have Hr := Lib.hid (Hnon.out (fun j hj => hno.out j hj (by omega)))
      clear hno
      go_wp2_with fail
      go_ret
      exact ⟨ret_bool Hr.out.symm, rfl⟩
theorem str_nil (s : ByteArray) : (s.toList == []) = decide (s.size = 0) := by
  rw [Lib.toList_data, Bool.eq_iff_iff, beq_iff_eq, decide_eq_true_eq]
  constructor
  · intro h
    have := congrArg List.length h
    simpa using this
  · intro h
    apply List.eq_nil_of_length_eq_zero
    simpa using h
set_option maxRecDepth 100000 in
set_option maxHeartbeats 8000000 in
theorem May_calls (o : Opn) (w : World) : Calls Tryz.prog 59 #[opV o] w fun e w' => e = .returned (.bool (mayO o)) ∧ Below w.heap.size w w' := by
  have hhas := fun w => has_calls o.kind w
  obtain ⟨kd, id, tt, aa, nm, tx⟩ := o
  obtain ⟨W0, hW0⟩ : ∃ W0, w.alloc (.cells #[.int .i64 kd, .int .i64 id, .int .i64 tt, .int .i64 aa, .string nm, .string tx] 40) = W0 := ⟨_, rfl⟩
  have hrow : W0.heap[w.heap.size]? = some (.cells #[.int .i64 kd, .int .i64 id, .int .i64 tt, .int .i64 aa, .string nm, .string tx] 40 (0, 0)) := by rw [← hW0]; exact World.alloc_heap_new w _
  have hb0 : Below w.heap.size w W0 := by rw [← hW0]; exact (Below.refl _ _).alloc (Nat.le_refl _) _
  have z0 : W0.cell? ⟨w.heap.size, 0, none⟩ = some (.int .i64 kd) := (cell_of_row _ _ _ _ _ _ hrow).trans rfl
  have z1 : W0.cell? ⟨w.heap.size, 1, none⟩ = some (.int .i64 id) := (cell_of_row _ _ _ _ _ _ hrow).trans rfl
  have z2 : W0.cell? ⟨w.heap.size, 2, none⟩ = some (.int .i64 tt) := (cell_of_row _ _ _ _ _ _ hrow).trans rfl
  have z3 : W0.cell? ⟨w.heap.size, 3, none⟩ = some (.int .i64 aa) := (cell_of_row _ _ _ _ _ _ hrow).trans rfl
  have z4 : W0.cell? ⟨w.heap.size, 4, none⟩ = some (.string nm) := (cell_of_row _ _ _ _ _ _ hrow).trans rfl
  have z5 : W0.cell? ⟨w.heap.size, 5, none⟩ = some (.string tx) := (cell_of_row _ _ _ _ _ _ hrow).trans rfl
  have HW0 := Lib.hid hW0; have HB0 := Lib.hid hb0
  clear hW0 hb0 hrow
  simp only at hhas
  unfold mayO
  simp only
  by_cases hk0 : kd = 1
  · rw [show hasS kd = (⟨#[110]⟩ : ByteArray) from by unfold hasS; rw [if_pos hk0]] at hhas
    have j105 : ∀ w, Calls Tryz.prog 131 #[.string ⟨#[110]⟩, .int .u8 105] w fun e w' => e = .returned (.bool false) ∧ w = w' := fun w => in_calls (⟨#[110]⟩ : ByteArray) (by decide) 105 w
    have j116 : ∀ w, Calls Tryz.prog 131 #[.string ⟨#[110]⟩, .int .u8 116] w fun e w' => e = .returned (.bool false) ∧ w = w' := fun w => in_calls (⟨#[110]⟩ : ByteArray) (by decide) 116 w
    have j97 : ∀ w, Calls Tryz.prog 131 #[.string ⟨#[110]⟩, .int .u8 97] w fun e w' => e = .returned (.bool false) ∧ w = w' := fun w => in_calls (⟨#[110]⟩ : ByteArray) (by decide) 97 w
    have j110 : ∀ w, Calls Tryz.prog 131 #[.string ⟨#[110]⟩, .int .u8 110] w fun e w' => e = .returned (.bool true) ∧ w = w' := fun w => in_calls (⟨#[110]⟩ : ByteArray) (by decide) 110 w
    have j120 : ∀ w, Calls Tryz.prog 131 #[.string ⟨#[110]⟩, .int .u8 120] w fun e w' => e = .returned (.bool false) ∧ w = w' := fun w => in_calls (⟨#[110]⟩ : ByteArray) (by decide) 120 w
    have J105 := Lib.hid j105; have J116 := Lib.hid j116; have J97 := Lib.hid j97; have J110 := Lib.hid j110; have J120 := Lib.hid j120
    clear j105 j116 j97 j110 j120
    have Hhas := Lib.hid hhas
    clear hhas
    have s1 : shapeN kd = 0 := by rw [hk0]; rfl
    have s2 : shapeA kd = true := by rw [hk0]; rfl
    have s3 : shapeT kd = false := by rw [hk0]; rfl
    have s4 : decide (1 ≤ kd ∧ kd ≤ 8) = true := decide_eq_true (by omega)
    rw [s1, s2, s3, s4]
    clear s1 s2 s3 s4 hk0
    by_cases c_id : id = 0
    rotate_left
    · have f_id : (id == 0) = false := by rw [beq_eq_false_iff_ne]; exact c_id
      have hres : (true && decide (nm.size ≤ 255) && decide (tx.size ≤ 255) && (decide ((1 : Int) ≤ 0) || id == 0) && (decide ((2 : Int) ≤ 0) || tt == 0) && (decide ((3 : Int) ≤ 0) || aa == 0) && (true || decide (nm.size = 0)) && (false || decide (tx.size = 0))) = false := by simp [c_id]
      have Hres := Lib.hid hres
      rw [Hres.out]
      clear hres c_id
      go_enter Tryz.func59, Tryz.ntmps59
      go_upto_region 1 with fail
      rw [HW0.out]
      go_wp2_with (first | (go_at_call 130; (with_reducible refine (Hhas.out _).mono ?_); rintro e w1 ⟨rfl, rfl⟩) | (go_at_call 131; (first | (with_reducible refine (J105.out _).mono ?_) | (with_reducible refine (J116.out _).mono ?_) | (with_reducible refine (J97.out _).mono ?_) | (with_reducible refine (J110.out _).mono ?_) | (with_reducible refine (J120.out _).mono ?_)); rintro e w2 ⟨rfl, rfl⟩))
      go_ret
      first | exact ⟨rfl, HB0.out⟩ | exact ⟨ret_bool (decide_eq_false (by omega)), HB0.out⟩ | exact ⟨ret_bool (decide_eq_true (by omega)), HB0.out⟩
    have f_id : (id == 0) = true := by rw [beq_iff_eq]; exact c_id
    by_cases c_to : tt = 0
    rotate_left
    · have f_to : (tt == 0) = false := by rw [beq_eq_false_iff_ne]; exact c_to
      have hres : (true && decide (nm.size ≤ 255) && decide (tx.size ≤ 255) && (decide ((1 : Int) ≤ 0) || id == 0) && (decide ((2 : Int) ≤ 0) || tt == 0) && (decide ((3 : Int) ≤ 0) || aa == 0) && (true || decide (nm.size = 0)) && (false || decide (tx.size = 0))) = false := by simp [c_to]
      have Hres := Lib.hid hres
      rw [Hres.out]
      clear hres c_id c_to
      go_enter Tryz.func59, Tryz.ntmps59
      go_upto_region 1 with fail
      rw [HW0.out]
      go_wp2_with (first | (go_at_call 130; (with_reducible refine (Hhas.out _).mono ?_); rintro e w1 ⟨rfl, rfl⟩) | (go_at_call 131; (first | (with_reducible refine (J105.out _).mono ?_) | (with_reducible refine (J116.out _).mono ?_) | (with_reducible refine (J97.out _).mono ?_) | (with_reducible refine (J110.out _).mono ?_) | (with_reducible refine (J120.out _).mono ?_)); rintro e w2 ⟨rfl, rfl⟩))
      go_ret
      first | exact ⟨rfl, HB0.out⟩ | exact ⟨ret_bool (decide_eq_false (by omega)), HB0.out⟩ | exact ⟨ret_bool (decide_eq_true (by omega)), HB0.out⟩
    have f_to : (tt == 0) = true := by rw [beq_iff_eq]; exact c_to
    by_cases c_at : aa = 0
    rotate_left
    · have f_at : (aa == 0) = false := by rw [beq_eq_false_iff_ne]; exact c_at
      have hres : (true && decide (nm.size ≤ 255) && decide (tx.size ≤ 255) && (decide ((1 : Int) ≤ 0) || id == 0) && (decide ((2 : Int) ≤ 0) || tt == 0) && (decide ((3 : Int) ≤ 0) || aa == 0) && (true || decide (nm.size = 0)) && (false || decide (tx.size = 0))) = false := by simp [c_at]
      have Hres := Lib.hid hres
      rw [Hres.out]
      clear hres c_id c_to c_at
      go_enter Tryz.func59, Tryz.ntmps59
      go_upto_region 1 with fail
      rw [HW0.out]
      go_wp2_with (first | (go_at_call 130; (with_reducible refine (Hhas.out _).mono ?_); rintro e w1 ⟨rfl, rfl⟩) | (go_at_call 131; (first | (with_reducible refine (J105.out _).mono ?_) | (with_reducible refine (J116.out _).mono ?_) | (with_reducible refine (J97.out _).mono ?_) | (with_reducible refine (J110.out _).mono ?_) | (with_reducible refine (J120.out _).mono ?_)); rintro e w2 ⟨rfl, rfl⟩))
      go_ret
      first | exact ⟨rfl, HB0.out⟩ | exact ⟨ret_bool (decide_eq_false (by omega)), HB0.out⟩ | exact ⟨ret_bool (decide_eq_true (by omega)), HB0.out⟩
    have f_at : (aa == 0) = true := by rw [beq_iff_eq]; exact c_at
    by_cases c_tx : tx.size = 0
    rotate_left
    · have f_tx : (tx.toList == []) = false := by rw [str_nil]; exact decide_eq_false c_tx
      have g_tx : tx.toList.isEmpty = false := by have e := f_tx; revert e; cases tx.toList <;> simp
      have hres : (true && decide (nm.size ≤ 255) && decide (tx.size ≤ 255) && (decide ((1 : Int) ≤ 0) || id == 0) && (decide ((2 : Int) ≤ 0) || tt == 0) && (decide ((3 : Int) ≤ 0) || aa == 0) && (true || decide (nm.size = 0)) && (false || decide (tx.size = 0))) = false := by simp [c_tx]
      have Hres := Lib.hid hres
      rw [Hres.out]
      clear hres c_id c_to c_at c_tx
      go_enter Tryz.func59, Tryz.ntmps59
      go_upto_region 1 with fail
      rw [HW0.out]
      go_wp2_with (first | (go_at_call 130; (with_reducible refine (Hhas.out _).mono ?_); rintro e w1 ⟨rfl, rfl⟩) | (go_at_call 131; (first | (with_reducible refine (J105.out _).mono ?_) | (with_reducible refine (J116.out _).mono ?_) | (with_reducible refine (J97.out _).mono ?_) | (with_reducible refine (J110.out _).mono ?_) | (with_reducible refine (J120.out _).mono ?_)); rintro e w2 ⟨rfl, rfl⟩))
      go_ret
      first | exact ⟨rfl, HB0.out⟩ | exact ⟨ret_bool (decide_eq_false (by omega)), HB0.out⟩ | exact ⟨ret_bool (decide_eq_true (by omega)), HB0.out⟩
    have f_tx : (tx.toList == []) = true := by rw [str_nil]; exact decide_eq_true c_tx
    have g_tx : tx.toList.isEmpty = true := by have e := f_tx; revert e; cases tx.toList <;> simp
    have i_tx : (tx.size : Int) ≤ 255 := by omega
    by_cases c_ln : nm.size ≤ 255
    rotate_left
    · have f_ln : ¬ (nm.size : Int) ≤ 255 := by omega
      have hres : (true && decide (nm.size ≤ 255) && decide (tx.size ≤ 255) && (decide ((1 : Int) ≤ 0) || id == 0) && (decide ((2 : Int) ≤ 0) || tt == 0) && (decide ((3 : Int) ≤ 0) || aa == 0) && (true || decide (nm.size = 0)) && (false || decide (tx.size = 0))) = false := by simp [c_ln]
      have Hres := Lib.hid hres
      rw [Hres.out]
      clear hres c_id c_to c_at c_tx c_ln
      go_enter Tryz.func59, Tryz.ntmps59
      go_upto_region 1 with fail
      rw [HW0.out]
      go_wp2_with (first | (go_at_call 130; (with_reducible refine (Hhas.out _).mono ?_); rintro e w1 ⟨rfl, rfl⟩) | (go_at_call 131; (first | (with_reducible refine (J105.out _).mono ?_) | (with_reducible refine (J116.out _).mono ?_) | (with_reducible refine (J97.out _).mono ?_) | (with_reducible refine (J110.out _).mono ?_) | (with_reducible refine (J120.out _).mono ?_)); rintro e w2 ⟨rfl, rfl⟩))
      go_ret
      first | exact ⟨rfl, HB0.out⟩ | exact ⟨ret_bool (decide_eq_false (by omega)), HB0.out⟩ | exact ⟨ret_bool (decide_eq_true (by omega)), HB0.out⟩
    have f_ln : (nm.size : Int) ≤ 255 := by omega
    have hres : (true && decide (nm.size ≤ 255) && decide (tx.size ≤ 255) && (decide ((1 : Int) ≤ 0) || id == 0) && (decide ((2 : Int) ≤ 0) || tt == 0) && (decide ((3 : Int) ≤ 0) || aa == 0) && (true || decide (nm.size = 0)) && (false || decide (tx.size = 0))) = true := by simp [c_id, c_to, c_at, c_tx, c_ln]
    rw [hres]
    clear hres c_id c_to c_at c_tx c_ln
    go_enter Tryz.func59, Tryz.ntmps59
    go_upto_region 1 with fail
    rw [HW0.out]
    go_wp2_with (first | (go_at_call 130; (with_reducible refine (Hhas.out _).mono ?_); rintro e w1 ⟨rfl, rfl⟩) | (go_at_call 131; (first | (with_reducible refine (J105.out _).mono ?_) | (with_reducible refine (J116.out _).mono ?_) | (with_reducible refine (J97.out _).mono ?_) | (with_reducible refine (J110.out _).mono ?_) | (with_reducible refine (J120.out _).mono ?_)); rintro e w2 ⟨rfl, rfl⟩))
    go_ret
    first | exact ⟨rfl, HB0.out⟩ | exact ⟨ret_bool (decide_eq_false (by omega)), HB0.out⟩ | exact ⟨ret_bool (decide_eq_true (by omega)), HB0.out⟩
  by_cases hk1 : kd = 2 ∨ kd = 3
  · rw [show hasS kd = (⟨#[120]⟩ : ByteArray) from by unfold hasS; rw [if_neg hk0]; rw [if_pos hk1]] at hhas
    have j105 : ∀ w, Calls Tryz.prog 131 #[.string ⟨#[120]⟩, .int .u8 105] w fun e w' => e = .returned (.bool false) ∧ w = w' := fun w => in_calls (⟨#[120]⟩ : ByteArray) (by decide) 105 w
    have j116 : ∀ w, Calls Tryz.prog 131 #[.string ⟨#[120]⟩, .int .u8 116] w fun e w' => e = .returned (.bool false) ∧ w = w' := fun w => in_calls (⟨#[120]⟩ : ByteArray) (by decide) 116 w
    have j97 : ∀ w, Calls Tryz.prog 131 #[.string ⟨#[120]⟩, .int .u8 97] w fun e w' => e = .returned (.bool false) ∧ w = w' := fun w => in_calls (⟨#[120]⟩ : ByteArray) (by decide) 97 w
    have j110 : ∀ w, Calls Tryz.prog 131 #[.string ⟨#[120]⟩, .int .u8 110] w fun e w' => e = .returned (.bool false) ∧ w = w' := fun w => in_calls (⟨#[120]⟩ : ByteArray) (by decide) 110 w
    have j120 : ∀ w, Calls Tryz.prog 131 #[.string ⟨#[120]⟩, .int .u8 120] w fun e w' => e = .returned (.bool true) ∧ w = w' := fun w => in_calls (⟨#[120]⟩ : ByteArray) (by decide) 120 w
    have J105 := Lib.hid j105; have J116 := Lib.hid j116; have J97 := Lib.hid j97; have J110 := Lib.hid j110; have J120 := Lib.hid j120
    clear j105 j116 j97 j110 j120
    have Hhas := Lib.hid hhas
    clear hhas
    have s1 : shapeN kd = 0 := by rcases hk1 with rfl | rfl <;> rfl
    have s2 : shapeA kd = false := by rcases hk1 with rfl | rfl <;> rfl
    have s3 : shapeT kd = true := by rcases hk1 with rfl | rfl <;> rfl
    have s4 : decide (1 ≤ kd ∧ kd ≤ 8) = true := decide_eq_true (by omega)
    rw [s1, s2, s3, s4]
    clear s1 s2 s3 s4 hk0 hk1
    by_cases c_id : id = 0
    rotate_left
    · have f_id : (id == 0) = false := by rw [beq_eq_false_iff_ne]; exact c_id
      have hres : (true && decide (nm.size ≤ 255) && decide (tx.size ≤ 255) && (decide ((1 : Int) ≤ 0) || id == 0) && (decide ((2 : Int) ≤ 0) || tt == 0) && (decide ((3 : Int) ≤ 0) || aa == 0) && (false || decide (nm.size = 0)) && (true || decide (tx.size = 0))) = false := by simp [c_id]
      have Hres := Lib.hid hres
      rw [Hres.out]
      clear hres c_id
      go_enter Tryz.func59, Tryz.ntmps59
      go_upto_region 1 with fail
      rw [HW0.out]
      go_wp2_with (first | (go_at_call 130; (with_reducible refine (Hhas.out _).mono ?_); rintro e w1 ⟨rfl, rfl⟩) | (go_at_call 131; (first | (with_reducible refine (J105.out _).mono ?_) | (with_reducible refine (J116.out _).mono ?_) | (with_reducible refine (J97.out _).mono ?_) | (with_reducible refine (J110.out _).mono ?_) | (with_reducible refine (J120.out _).mono ?_)); rintro e w2 ⟨rfl, rfl⟩))
      go_ret
      first | exact ⟨rfl, HB0.out⟩ | exact ⟨ret_bool (decide_eq_false (by omega)), HB0.out⟩ | exact ⟨ret_bool (decide_eq_true (by omega)), HB0.out⟩
    have f_id : (id == 0) = true := by rw [beq_iff_eq]; exact c_id
    by_cases c_to : tt = 0
    rotate_left
    · have f_to : (tt == 0) = false := by rw [beq_eq_false_iff_ne]; exact c_to
      have hres : (true && decide (nm.size ≤ 255) && decide (tx.size ≤ 255) && (decide ((1 : Int) ≤ 0) || id == 0) && (decide ((2 : Int) ≤ 0) || tt == 0) && (decide ((3 : Int) ≤ 0) || aa == 0) && (false || decide (nm.size = 0)) && (true || decide (tx.size = 0))) = false := by simp [c_to]
      have Hres := Lib.hid hres
      rw [Hres.out]
      clear hres c_id c_to
      go_enter Tryz.func59, Tryz.ntmps59
      go_upto_region 1 with fail
      rw [HW0.out]
      go_wp2_with (first | (go_at_call 130; (with_reducible refine (Hhas.out _).mono ?_); rintro e w1 ⟨rfl, rfl⟩) | (go_at_call 131; (first | (with_reducible refine (J105.out _).mono ?_) | (with_reducible refine (J116.out _).mono ?_) | (with_reducible refine (J97.out _).mono ?_) | (with_reducible refine (J110.out _).mono ?_) | (with_reducible refine (J120.out _).mono ?_)); rintro e w2 ⟨rfl, rfl⟩))
      go_ret
      first | exact ⟨rfl, HB0.out⟩ | exact ⟨ret_bool (decide_eq_false (by omega)), HB0.out⟩ | exact ⟨ret_bool (decide_eq_true (by omega)), HB0.out⟩
    have f_to : (tt == 0) = true := by rw [beq_iff_eq]; exact c_to
    by_cases c_at : aa = 0
    rotate_left
    · have f_at : (aa == 0) = false := by rw [beq_eq_false_iff_ne]; exact c_at
      have hres : (true && decide (nm.size ≤ 255) && decide (tx.size ≤ 255) && (decide ((1 : Int) ≤ 0) || id == 0) && (decide ((2 : Int) ≤ 0) || tt == 0) && (decide ((3 : Int) ≤ 0) || aa == 0) && (false || decide (nm.size = 0)) && (true || decide (tx.size = 0))) = false := by simp [c_at]
      have Hres := Lib.hid hres
      rw [Hres.out]
      clear hres c_id c_to c_at
      go_enter Tryz.func59, Tryz.ntmps59
      go_upto_region 1 with fail
      rw [HW0.out]
      go_wp2_with (first | (go_at_call 130; (with_reducible refine (Hhas.out _).mono ?_); rintro e w1 ⟨rfl, rfl⟩) | (go_at_call 131; (first | (with_reducible refine (J105.out _).mono ?_) | (with_reducible refine (J116.out _).mono ?_) | (with_reducible refine (J97.out _).mono ?_) | (with_reducible refine (J110.out _).mono ?_) | (with_reducible refine (J120.out _).mono ?_)); rintro e w2 ⟨rfl, rfl⟩))
      go_ret
      first | exact ⟨rfl, HB0.out⟩ | exact ⟨ret_bool (decide_eq_false (by omega)), HB0.out⟩ | exact ⟨ret_bool (decide_eq_true (by omega)), HB0.out⟩
    have f_at : (aa == 0) = true := by rw [beq_iff_eq]; exact c_at
    by_cases c_nm : nm.size = 0
    rotate_left
    · have f_nm : (nm.toList == []) = false := by rw [str_nil]; exact decide_eq_false c_nm
      have g_nm : nm.toList.isEmpty = false := by have e := f_nm; revert e; cases nm.toList <;> simp
      have hres : (true && decide (nm.size ≤ 255) && decide (tx.size ≤ 255) && (decide ((1 : Int) ≤ 0) || id == 0) && (decide ((2 : Int) ≤ 0) || tt == 0) && (decide ((3 : Int) ≤ 0) || aa == 0) && (false || decide (nm.size = 0)) && (true || decide (tx.size = 0))) = false := by simp [c_nm]
      have Hres := Lib.hid hres
      rw [Hres.out]
      clear hres c_id c_to c_at c_nm
      go_enter Tryz.func59, Tryz.ntmps59
      go_upto_region 1 with fail
      rw [HW0.out]
      go_wp2_with (first | (go_at_call 130; (with_reducible refine (Hhas.out _).mono ?_); rintro e w1 ⟨rfl, rfl⟩) | (go_at_call 131; (first | (with_reducible refine (J105.out _).mono ?_) | (with_reducible refine (J116.out _).mono ?_) | (with_reducible refine (J97.out _).mono ?_) | (with_reducible refine (J110.out _).mono ?_) | (with_reducible refine (J120.out _).mono ?_)); rintro e w2 ⟨rfl, rfl⟩))
      go_ret
      first | exact ⟨rfl, HB0.out⟩ | exact ⟨ret_bool (decide_eq_false (by omega)), HB0.out⟩ | exact ⟨ret_bool (decide_eq_true (by omega)), HB0.out⟩
    have f_nm : (nm.toList == []) = true := by rw [str_nil]; exact decide_eq_true c_nm
    have g_nm : nm.toList.isEmpty = true := by have e := f_nm; revert e; cases nm.toList <;> simp
    have i_nm : (nm.size : Int) ≤ 255 := by omega
    by_cases c_lt : tx.size ≤ 255
    rotate_left
    · have f_lt : ¬ (tx.size : Int) ≤ 255 := by omega
      have hres : (true && decide (nm.size ≤ 255) && decide (tx.size ≤ 255) && (decide ((1 : Int) ≤ 0) || id == 0) && (decide ((2 : Int) ≤ 0) || tt == 0) && (decide ((3 : Int) ≤ 0) || aa == 0) && (false || decide (nm.size = 0)) && (true || decide (tx.size = 0))) = false := by simp [c_lt]
      have Hres := Lib.hid hres
      rw [Hres.out]
      clear hres c_id c_to c_at c_nm c_lt
      go_enter Tryz.func59, Tryz.ntmps59
      go_upto_region 1 with fail
      rw [HW0.out]
      go_wp2_with (first | (go_at_call 130; (with_reducible refine (Hhas.out _).mono ?_); rintro e w1 ⟨rfl, rfl⟩) | (go_at_call 131; (first | (with_reducible refine (J105.out _).mono ?_) | (with_reducible refine (J116.out _).mono ?_) | (with_reducible refine (J97.out _).mono ?_) | (with_reducible refine (J110.out _).mono ?_) | (with_reducible refine (J120.out _).mono ?_)); rintro e w2 ⟨rfl, rfl⟩))
      go_ret
      first | exact ⟨rfl, HB0.out⟩ | exact ⟨ret_bool (decide_eq_false (by omega)), HB0.out⟩ | exact ⟨ret_bool (decide_eq_true (by omega)), HB0.out⟩
    have f_lt : (tx.size : Int) ≤ 255 := by omega
    have hres : (true && decide (nm.size ≤ 255) && decide (tx.size ≤ 255) && (decide ((1 : Int) ≤ 0) || id == 0) && (decide ((2 : Int) ≤ 0) || tt == 0) && (decide ((3 : Int) ≤ 0) || aa == 0) && (false || decide (nm.size = 0)) && (true || decide (tx.size = 0))) = true := by simp [c_id, c_to, c_at, c_nm, c_lt]
    rw [hres]
    clear hres c_id c_to c_at c_nm c_lt
    go_enter Tryz.func59, Tryz.ntmps59
    go_upto_region 1 with fail
    rw [HW0.out]
    go_wp2_with (first | (go_at_call 130; (with_reducible refine (Hhas.out _).mono ?_); rintro e w1 ⟨rfl, rfl⟩) | (go_at_call 131; (first | (with_reducible refine (J105.out _).mono ?_) | (with_reducible refine (J116.out _).mono ?_) | (with_reducible refine (J97.out _).mono ?_) | (with_reducible refine (J110.out _).mono ?_) | (with_reducible refine (J120.out _).mono ?_)); rintro e w2 ⟨rfl, rfl⟩))
    go_ret
    first | exact ⟨rfl, HB0.out⟩ | exact ⟨ret_bool (decide_eq_false (by omega)), HB0.out⟩ | exact ⟨ret_bool (decide_eq_true (by omega)), HB0.out⟩
  by_cases hk2 : kd = 4
  · rw [show hasS kd = (⟨#[105, 116, 97]⟩ : ByteArray) from by unfold hasS; rw [if_neg hk0]; rw [if_neg hk1]; rw [if_pos hk2]] at hhas
    have j105 : ∀ w, Calls Tryz.prog 131 #[.string ⟨#[105, 116, 97]⟩, .int .u8 105] w fun e w' => e = .returned (.bool true) ∧ w = w' := fun w => in_calls (⟨#[105, 116, 97]⟩ : ByteArray) (by decide) 105 w
    have j116 : ∀ w, Calls Tryz.prog 131 #[.string ⟨#[105, 116, 97]⟩, .int .u8 116] w fun e w' => e = .returned (.bool true) ∧ w = w' := fun w => in_calls (⟨#[105, 116, 97]⟩ : ByteArray) (by decide) 116 w
    have j97 : ∀ w, Calls Tryz.prog 131 #[.string ⟨#[105, 116, 97]⟩, .int .u8 97] w fun e w' => e = .returned (.bool true) ∧ w = w' := fun w => in_calls (⟨#[105, 116, 97]⟩ : ByteArray) (by decide) 97 w
    have j110 : ∀ w, Calls Tryz.prog 131 #[.string ⟨#[105, 116, 97]⟩, .int .u8 110] w fun e w' => e = .returned (.bool false) ∧ w = w' := fun w => in_calls (⟨#[105, 116, 97]⟩ : ByteArray) (by decide) 110 w
    have j120 : ∀ w, Calls Tryz.prog 131 #[.string ⟨#[105, 116, 97]⟩, .int .u8 120] w fun e w' => e = .returned (.bool false) ∧ w = w' := fun w => in_calls (⟨#[105, 116, 97]⟩ : ByteArray) (by decide) 120 w
    have J105 := Lib.hid j105; have J116 := Lib.hid j116; have J97 := Lib.hid j97; have J110 := Lib.hid j110; have J120 := Lib.hid j120
    clear j105 j116 j97 j110 j120
    have Hhas := Lib.hid hhas
    clear hhas
    have s1 : shapeN kd = 3 := by rw [hk2]; rfl
    have s2 : shapeA kd = false := by rw [hk2]; rfl
    have s3 : shapeT kd = false := by rw [hk2]; rfl
    have s4 : decide (1 ≤ kd ∧ kd ≤ 8) = true := decide_eq_true (by omega)
    rw [s1, s2, s3, s4]
    clear s1 s2 s3 s4 hk0 hk1 hk2
    by_cases c_nm : nm.size = 0
    rotate_left
    · have f_nm : (nm.toList == []) = false := by rw [str_nil]; exact decide_eq_false c_nm
      have g_nm : nm.toList.isEmpty = false := by have e := f_nm; revert e; cases nm.toList <;> simp
      have hres : (true && decide (nm.size ≤ 255) && decide (tx.size ≤ 255) && (decide ((1 : Int) ≤ 3) || id == 0) && (decide ((2 : Int) ≤ 3) || tt == 0) && (decide ((3 : Int) ≤ 3) || aa == 0) && (false || decide (nm.size = 0)) && (false || decide (tx.size = 0))) = false := by simp [c_nm]
      have Hres := Lib.hid hres
      rw [Hres.out]
      clear hres c_nm
      go_enter Tryz.func59, Tryz.ntmps59
      go_upto_region 1 with fail
      rw [HW0.out]
      go_wp2_with (first | (go_at_call 130; (with_reducible refine (Hhas.out _).mono ?_); rintro e w1 ⟨rfl, rfl⟩) | (go_at_call 131; (first | (with_reducible refine (J105.out _).mono ?_) | (with_reducible refine (J116.out _).mono ?_) | (with_reducible refine (J97.out _).mono ?_) | (with_reducible refine (J110.out _).mono ?_) | (with_reducible refine (J120.out _).mono ?_)); rintro e w2 ⟨rfl, rfl⟩))
      go_ret
      first | exact ⟨rfl, HB0.out⟩ | exact ⟨ret_bool (decide_eq_false (by omega)), HB0.out⟩ | exact ⟨ret_bool (decide_eq_true (by omega)), HB0.out⟩
    have f_nm : (nm.toList == []) = true := by rw [str_nil]; exact decide_eq_true c_nm
    have g_nm : nm.toList.isEmpty = true := by have e := f_nm; revert e; cases nm.toList <;> simp
    have i_nm : (nm.size : Int) ≤ 255 := by omega
    by_cases c_tx : tx.size = 0
    rotate_left
    · have f_tx : (tx.toList == []) = false := by rw [str_nil]; exact decide_eq_false c_tx
      have g_tx : tx.toList.isEmpty = false := by have e := f_tx; revert e; cases tx.toList <;> simp
      have hres : (true && decide (nm.size ≤ 255) && decide (tx.size ≤ 255) && (decide ((1 : Int) ≤ 3) || id == 0) && (decide ((2 : Int) ≤ 3) || tt == 0) && (decide ((3 : Int) ≤ 3) || aa == 0) && (false || decide (nm.size = 0)) && (false || decide (tx.size = 0))) = false := by simp [c_tx]
      have Hres := Lib.hid hres
      rw [Hres.out]
      clear hres c_nm c_tx
      go_enter Tryz.func59, Tryz.ntmps59
      go_upto_region 1 with fail
      rw [HW0.out]
      go_wp2_with (first | (go_at_call 130; (with_reducible refine (Hhas.out _).mono ?_); rintro e w1 ⟨rfl, rfl⟩) | (go_at_call 131; (first | (with_reducible refine (J105.out _).mono ?_) | (with_reducible refine (J116.out _).mono ?_) | (with_reducible refine (J97.out _).mono ?_) | (with_reducible refine (J110.out _).mono ?_) | (with_reducible refine (J120.out _).mono ?_)); rintro e w2 ⟨rfl, rfl⟩))
      go_ret
      first | exact ⟨rfl, HB0.out⟩ | exact ⟨ret_bool (decide_eq_false (by omega)), HB0.out⟩ | exact ⟨ret_bool (decide_eq_true (by omega)), HB0.out⟩
    have f_tx : (tx.toList == []) = true := by rw [str_nil]; exact decide_eq_true c_tx
    have g_tx : tx.toList.isEmpty = true := by have e := f_tx; revert e; cases tx.toList <;> simp
    have i_tx : (tx.size : Int) ≤ 255 := by omega
    have hres : (true && decide (nm.size ≤ 255) && decide (tx.size ≤ 255) && (decide ((1 : Int) ≤ 3) || id == 0) && (decide ((2 : Int) ≤ 3) || tt == 0) && (decide ((3 : Int) ≤ 3) || aa == 0) && (false || decide (nm.size = 0)) && (false || decide (tx.size = 0))) = true := by simp [c_nm, c_tx]
    rw [hres]
    clear hres c_nm c_tx
    go_enter Tryz.func59, Tryz.ntmps59
    go_upto_region 1 with fail
    rw [HW0.out]
    go_wp2_with (first | (go_at_call 130; (with_reducible refine (Hhas.out _).mono ?_); rintro e w1 ⟨rfl, rfl⟩) | (go_at_call 131; (first | (with_reducible refine (J105.out _).mono ?_) | (with_reducible refine (J116.out _).mono ?_) | (with_reducible refine (J97.out _).mono ?_) | (with_reducible refine (J110.out _).mono ?_) | (with_reducible refine (J120.out _).mono ?_)); rintro e w2 ⟨rfl, rfl⟩))
    go_ret
    first | exact ⟨rfl, HB0.out⟩ | exact ⟨ret_bool (decide_eq_false (by omega)), HB0.out⟩ | exact ⟨ret_bool (decide_eq_true (by omega)), HB0.out⟩
  by_cases hk3 : kd = 5
  · rw [show hasS kd = (⟨#[105]⟩ : ByteArray) from by unfold hasS; rw [if_neg hk0]; rw [if_neg hk1]; rw [if_neg hk2]; rw [if_pos hk3]] at hhas
    have j105 : ∀ w, Calls Tryz.prog 131 #[.string ⟨#[105]⟩, .int .u8 105] w fun e w' => e = .returned (.bool true) ∧ w = w' := fun w => in_calls (⟨#[105]⟩ : ByteArray) (by decide) 105 w
    have j116 : ∀ w, Calls Tryz.prog 131 #[.string ⟨#[105]⟩, .int .u8 116] w fun e w' => e = .returned (.bool false) ∧ w = w' := fun w => in_calls (⟨#[105]⟩ : ByteArray) (by decide) 116 w
    have j97 : ∀ w, Calls Tryz.prog 131 #[.string ⟨#[105]⟩, .int .u8 97] w fun e w' => e = .returned (.bool false) ∧ w = w' := fun w => in_calls (⟨#[105]⟩ : ByteArray) (by decide) 97 w
    have j110 : ∀ w, Calls Tryz.prog 131 #[.string ⟨#[105]⟩, .int .u8 110] w fun e w' => e = .returned (.bool false) ∧ w = w' := fun w => in_calls (⟨#[105]⟩ : ByteArray) (by decide) 110 w
    have j120 : ∀ w, Calls Tryz.prog 131 #[.string ⟨#[105]⟩, .int .u8 120] w fun e w' => e = .returned (.bool false) ∧ w = w' := fun w => in_calls (⟨#[105]⟩ : ByteArray) (by decide) 120 w
    have J105 := Lib.hid j105; have J116 := Lib.hid j116; have J97 := Lib.hid j97; have J110 := Lib.hid j110; have J120 := Lib.hid j120
    clear j105 j116 j97 j110 j120
    have Hhas := Lib.hid hhas
    clear hhas
    have s1 : shapeN kd = 1 := by rw [hk3]; rfl
    have s2 : shapeA kd = false := by rw [hk3]; rfl
    have s3 : shapeT kd = false := by rw [hk3]; rfl
    have s4 : decide (1 ≤ kd ∧ kd ≤ 8) = true := decide_eq_true (by omega)
    rw [s1, s2, s3, s4]
    clear s1 s2 s3 s4 hk0 hk1 hk2 hk3
    by_cases c_to : tt = 0
    rotate_left
    · have f_to : (tt == 0) = false := by rw [beq_eq_false_iff_ne]; exact c_to
      have hres : (true && decide (nm.size ≤ 255) && decide (tx.size ≤ 255) && (decide ((1 : Int) ≤ 1) || id == 0) && (decide ((2 : Int) ≤ 1) || tt == 0) && (decide ((3 : Int) ≤ 1) || aa == 0) && (false || decide (nm.size = 0)) && (false || decide (tx.size = 0))) = false := by simp [c_to]
      have Hres := Lib.hid hres
      rw [Hres.out]
      clear hres c_to
      go_enter Tryz.func59, Tryz.ntmps59
      go_upto_region 1 with fail
      rw [HW0.out]
      go_wp2_with (first | (go_at_call 130; (with_reducible refine (Hhas.out _).mono ?_); rintro e w1 ⟨rfl, rfl⟩) | (go_at_call 131; (first | (with_reducible refine (J105.out _).mono ?_) | (with_reducible refine (J116.out _).mono ?_) | (with_reducible refine (J97.out _).mono ?_) | (with_reducible refine (J110.out _).mono ?_) | (with_reducible refine (J120.out _).mono ?_)); rintro e w2 ⟨rfl, rfl⟩))
      go_ret
      first | exact ⟨rfl, HB0.out⟩ | exact ⟨ret_bool (decide_eq_false (by omega)), HB0.out⟩ | exact ⟨ret_bool (decide_eq_true (by omega)), HB0.out⟩
    have f_to : (tt == 0) = true := by rw [beq_iff_eq]; exact c_to
    by_cases c_at : aa = 0
    rotate_left
    · have f_at : (aa == 0) = false := by rw [beq_eq_false_iff_ne]; exact c_at
      have hres : (true && decide (nm.size ≤ 255) && decide (tx.size ≤ 255) && (decide ((1 : Int) ≤ 1) || id == 0) && (decide ((2 : Int) ≤ 1) || tt == 0) && (decide ((3 : Int) ≤ 1) || aa == 0) && (false || decide (nm.size = 0)) && (false || decide (tx.size = 0))) = false := by simp [c_at]
      have Hres := Lib.hid hres
      rw [Hres.out]
      clear hres c_to c_at
      go_enter Tryz.func59, Tryz.ntmps59
      go_upto_region 1 with fail
      rw [HW0.out]
      go_wp2_with (first | (go_at_call 130; (with_reducible refine (Hhas.out _).mono ?_); rintro e w1 ⟨rfl, rfl⟩) | (go_at_call 131; (first | (with_reducible refine (J105.out _).mono ?_) | (with_reducible refine (J116.out _).mono ?_) | (with_reducible refine (J97.out _).mono ?_) | (with_reducible refine (J110.out _).mono ?_) | (with_reducible refine (J120.out _).mono ?_)); rintro e w2 ⟨rfl, rfl⟩))
      go_ret
      first | exact ⟨rfl, HB0.out⟩ | exact ⟨ret_bool (decide_eq_false (by omega)), HB0.out⟩ | exact ⟨ret_bool (decide_eq_true (by omega)), HB0.out⟩
    have f_at : (aa == 0) = true := by rw [beq_iff_eq]; exact c_at
    by_cases c_nm : nm.size = 0
    rotate_left
    · have f_nm : (nm.toList == []) = false := by rw [str_nil]; exact decide_eq_false c_nm
      have g_nm : nm.toList.isEmpty = false := by have e := f_nm; revert e; cases nm.toList <;> simp
      have hres : (true && decide (nm.size ≤ 255) && decide (tx.size ≤ 255) && (decide ((1 : Int) ≤ 1) || id == 0) && (decide ((2 : Int) ≤ 1) || tt == 0) && (decide ((3 : Int) ≤ 1) || aa == 0) && (false || decide (nm.size = 0)) && (false || decide (tx.size = 0))) = false := by simp [c_nm]
      have Hres := Lib.hid hres
      rw [Hres.out]
      clear hres c_to c_at c_nm
      go_enter Tryz.func59, Tryz.ntmps59
      go_upto_region 1 with fail
      rw [HW0.out]
      go_wp2_with (first | (go_at_call 130; (with_reducible refine (Hhas.out _).mono ?_); rintro e w1 ⟨rfl, rfl⟩) | (go_at_call 131; (first | (with_reducible refine (J105.out _).mono ?_) | (with_reducible refine (J116.out _).mono ?_) | (with_reducible refine (J97.out _).mono ?_) | (with_reducible refine (J110.out _).mono ?_) | (with_reducible refine (J120.out _).mono ?_)); rintro e w2 ⟨rfl, rfl⟩))
      go_ret
      first | exact ⟨rfl, HB0.out⟩ | exact ⟨ret_bool (decide_eq_false (by omega)), HB0.out⟩ | exact ⟨ret_bool (decide_eq_true (by omega)), HB0.out⟩
    have f_nm : (nm.toList == []) = true := by rw [str_nil]; exact decide_eq_true c_nm
    have g_nm : nm.toList.isEmpty = true := by have e := f_nm; revert e; cases nm.toList <;> simp
    have i_nm : (nm.size : Int) ≤ 255 := by omega
    by_cases c_tx : tx.size = 0
    rotate_left
    · have f_tx : (tx.toList == []) = false := by rw [str_nil]; exact decide_eq_false c_tx
      have g_tx : tx.toList.isEmpty = false := by have e := f_tx; revert e; cases tx.toList <;> simp
      have hres : (true && decide (nm.size ≤ 255) && decide (tx.size ≤ 255) && (decide ((1 : Int) ≤ 1) || id == 0) && (decide ((2 : Int) ≤ 1) || tt == 0) && (decide ((3 : Int) ≤ 1) || aa == 0) && (false || decide (nm.size = 0)) && (false || decide (tx.size = 0))) = false := by simp [c_tx]
      have Hres := Lib.hid hres
      rw [Hres.out]
      clear hres c_to c_at c_nm c_tx
      go_enter Tryz.func59, Tryz.ntmps59
      go_upto_region 1 with fail
      rw [HW0.out]
      go_wp2_with (first | (go_at_call 130; (with_reducible refine (Hhas.out _).mono ?_); rintro e w1 ⟨rfl, rfl⟩) | (go_at_call 131; (first | (with_reducible refine (J105.out _).mono ?_) | (with_reducible refine (J116.out _).mono ?_) | (with_reducible refine (J97.out _).mono ?_) | (with_reducible refine (J110.out _).mono ?_) | (with_reducible refine (J120.out _).mono ?_)); rintro e w2 ⟨rfl, rfl⟩))
      go_ret
      first | exact ⟨rfl, HB0.out⟩ | exact ⟨ret_bool (decide_eq_false (by omega)), HB0.out⟩ | exact ⟨ret_bool (decide_eq_true (by omega)), HB0.out⟩
    have f_tx : (tx.toList == []) = true := by rw [str_nil]; exact decide_eq_true c_tx
    have g_tx : tx.toList.isEmpty = true := by have e := f_tx; revert e; cases tx.toList <;> simp
    have i_tx : (tx.size : Int) ≤ 255 := by omega
    have hres : (true && decide (nm.size ≤ 255) && decide (tx.size ≤ 255) && (decide ((1 : Int) ≤ 1) || id == 0) && (decide ((2 : Int) ≤ 1) || tt == 0) && (decide ((3 : Int) ≤ 1) || aa == 0) && (false || decide (nm.size = 0)) && (false || decide (tx.size = 0))) = true := by simp [c_to, c_at, c_nm, c_tx]
    rw [hres]
    clear hres c_to c_at c_nm c_tx
    go_enter Tryz.func59, Tryz.ntmps59
    go_upto_region 1 with fail
    rw [HW0.out]
    go_wp2_with (first | (go_at_call 130; (with_reducible refine (Hhas.out _).mono ?_); rintro e w1 ⟨rfl, rfl⟩) | (go_at_call 131; (first | (with_reducible refine (J105.out _).mono ?_) | (with_reducible refine (J116.out _).mono ?_) | (with_reducible refine (J97.out _).mono ?_) | (with_reducible refine (J110.out _).mono ?_) | (with_reducible refine (J120.out _).mono ?_)); rintro e w2 ⟨rfl, rfl⟩))
    go_ret
    first | exact ⟨rfl, HB0.out⟩ | exact ⟨ret_bool (decide_eq_false (by omega)), HB0.out⟩ | exact ⟨ret_bool (decide_eq_true (by omega)), HB0.out⟩
  by_cases hk4 : kd = 6
  · rw [show hasS kd = (⟨#[105, 110, 120]⟩ : ByteArray) from by unfold hasS; rw [if_neg hk0]; rw [if_neg hk1]; rw [if_neg hk2]; rw [if_neg hk3]; rw [if_pos hk4]] at hhas
    have j105 : ∀ w, Calls Tryz.prog 131 #[.string ⟨#[105, 110, 120]⟩, .int .u8 105] w fun e w' => e = .returned (.bool true) ∧ w = w' := fun w => in_calls (⟨#[105, 110, 120]⟩ : ByteArray) (by decide) 105 w
    have j116 : ∀ w, Calls Tryz.prog 131 #[.string ⟨#[105, 110, 120]⟩, .int .u8 116] w fun e w' => e = .returned (.bool false) ∧ w = w' := fun w => in_calls (⟨#[105, 110, 120]⟩ : ByteArray) (by decide) 116 w
    have j97 : ∀ w, Calls Tryz.prog 131 #[.string ⟨#[105, 110, 120]⟩, .int .u8 97] w fun e w' => e = .returned (.bool false) ∧ w = w' := fun w => in_calls (⟨#[105, 110, 120]⟩ : ByteArray) (by decide) 97 w
    have j110 : ∀ w, Calls Tryz.prog 131 #[.string ⟨#[105, 110, 120]⟩, .int .u8 110] w fun e w' => e = .returned (.bool true) ∧ w = w' := fun w => in_calls (⟨#[105, 110, 120]⟩ : ByteArray) (by decide) 110 w
    have j120 : ∀ w, Calls Tryz.prog 131 #[.string ⟨#[105, 110, 120]⟩, .int .u8 120] w fun e w' => e = .returned (.bool true) ∧ w = w' := fun w => in_calls (⟨#[105, 110, 120]⟩ : ByteArray) (by decide) 120 w
    have J105 := Lib.hid j105; have J116 := Lib.hid j116; have J97 := Lib.hid j97; have J110 := Lib.hid j110; have J120 := Lib.hid j120
    clear j105 j116 j97 j110 j120
    have Hhas := Lib.hid hhas
    clear hhas
    have s1 : shapeN kd = 1 := by rw [hk4]; rfl
    have s2 : shapeA kd = true := by rw [hk4]; rfl
    have s3 : shapeT kd = true := by rw [hk4]; rfl
    have s4 : decide (1 ≤ kd ∧ kd ≤ 8) = true := decide_eq_true (by omega)
    rw [s1, s2, s3, s4]
    clear s1 s2 s3 s4 hk0 hk1 hk2 hk3 hk4
    by_cases c_to : tt = 0
    rotate_left
    · have f_to : (tt == 0) = false := by rw [beq_eq_false_iff_ne]; exact c_to
      have hres : (true && decide (nm.size ≤ 255) && decide (tx.size ≤ 255) && (decide ((1 : Int) ≤ 1) || id == 0) && (decide ((2 : Int) ≤ 1) || tt == 0) && (decide ((3 : Int) ≤ 1) || aa == 0) && (true || decide (nm.size = 0)) && (true || decide (tx.size = 0))) = false := by simp [c_to]
      have Hres := Lib.hid hres
      rw [Hres.out]
      clear hres c_to
      go_enter Tryz.func59, Tryz.ntmps59
      go_upto_region 1 with fail
      rw [HW0.out]
      go_wp2_with (first | (go_at_call 130; (with_reducible refine (Hhas.out _).mono ?_); rintro e w1 ⟨rfl, rfl⟩) | (go_at_call 131; (first | (with_reducible refine (J105.out _).mono ?_) | (with_reducible refine (J116.out _).mono ?_) | (with_reducible refine (J97.out _).mono ?_) | (with_reducible refine (J110.out _).mono ?_) | (with_reducible refine (J120.out _).mono ?_)); rintro e w2 ⟨rfl, rfl⟩))
      go_ret
      first | exact ⟨rfl, HB0.out⟩ | exact ⟨ret_bool (decide_eq_false (by omega)), HB0.out⟩ | exact ⟨ret_bool (decide_eq_true (by omega)), HB0.out⟩
    have f_to : (tt == 0) = true := by rw [beq_iff_eq]; exact c_to
    by_cases c_at : aa = 0
    rotate_left
    · have f_at : (aa == 0) = false := by rw [beq_eq_false_iff_ne]; exact c_at
      have hres : (true && decide (nm.size ≤ 255) && decide (tx.size ≤ 255) && (decide ((1 : Int) ≤ 1) || id == 0) && (decide ((2 : Int) ≤ 1) || tt == 0) && (decide ((3 : Int) ≤ 1) || aa == 0) && (true || decide (nm.size = 0)) && (true || decide (tx.size = 0))) = false := by simp [c_at]
      have Hres := Lib.hid hres
      rw [Hres.out]
      clear hres c_to c_at
      go_enter Tryz.func59, Tryz.ntmps59
      go_upto_region 1 with fail
      rw [HW0.out]
      go_wp2_with (first | (go_at_call 130; (with_reducible refine (Hhas.out _).mono ?_); rintro e w1 ⟨rfl, rfl⟩) | (go_at_call 131; (first | (with_reducible refine (J105.out _).mono ?_) | (with_reducible refine (J116.out _).mono ?_) | (with_reducible refine (J97.out _).mono ?_) | (with_reducible refine (J110.out _).mono ?_) | (with_reducible refine (J120.out _).mono ?_)); rintro e w2 ⟨rfl, rfl⟩))
      go_ret
      first | exact ⟨rfl, HB0.out⟩ | exact ⟨ret_bool (decide_eq_false (by omega)), HB0.out⟩ | exact ⟨ret_bool (decide_eq_true (by omega)), HB0.out⟩
    have f_at : (aa == 0) = true := by rw [beq_iff_eq]; exact c_at
    by_cases c_ln : nm.size ≤ 255
    rotate_left
    · have f_ln : ¬ (nm.size : Int) ≤ 255 := by omega
      have hres : (true && decide (nm.size ≤ 255) && decide (tx.size ≤ 255) && (decide ((1 : Int) ≤ 1) || id == 0) && (decide ((2 : Int) ≤ 1) || tt == 0) && (decide ((3 : Int) ≤ 1) || aa == 0) && (true || decide (nm.size = 0)) && (true || decide (tx.size = 0))) = false := by simp [c_ln]
      have Hres := Lib.hid hres
      rw [Hres.out]
      clear hres c_to c_at c_ln
      go_enter Tryz.func59, Tryz.ntmps59
      go_upto_region 1 with fail
      rw [HW0.out]
      go_wp2_with (first | (go_at_call 130; (with_reducible refine (Hhas.out _).mono ?_); rintro e w1 ⟨rfl, rfl⟩) | (go_at_call 131; (first | (with_reducible refine (J105.out _).mono ?_) | (with_reducible refine (J116.out _).mono ?_) | (with_reducible refine (J97.out _).mono ?_) | (with_reducible refine (J110.out _).mono ?_) | (with_reducible refine (J120.out _).mono ?_)); rintro e w2 ⟨rfl, rfl⟩))
      go_ret
      first | exact ⟨rfl, HB0.out⟩ | exact ⟨ret_bool (decide_eq_false (by omega)), HB0.out⟩ | exact ⟨ret_bool (decide_eq_true (by omega)), HB0.out⟩
    have f_ln : (nm.size : Int) ≤ 255 := by omega
    by_cases c_lt : tx.size ≤ 255
    rotate_left
    · have f_lt : ¬ (tx.size : Int) ≤ 255 := by omega
      have hres : (true && decide (nm.size ≤ 255) && decide (tx.size ≤ 255) && (decide ((1 : Int) ≤ 1) || id == 0) && (decide ((2 : Int) ≤ 1) || tt == 0) && (decide ((3 : Int) ≤ 1) || aa == 0) && (true || decide (nm.size = 0)) && (true || decide (tx.size = 0))) = false := by simp [c_lt]
      have Hres := Lib.hid hres
      rw [Hres.out]
      clear hres c_to c_at c_ln c_lt
      go_enter Tryz.func59, Tryz.ntmps59
      go_upto_region 1 with fail
      rw [HW0.out]
      go_wp2_with (first | (go_at_call 130; (with_reducible refine (Hhas.out _).mono ?_); rintro e w1 ⟨rfl, rfl⟩) | (go_at_call 131; (first | (with_reducible refine (J105.out _).mono ?_) | (with_reducible refine (J116.out _).mono ?_) | (with_reducible refine (J97.out _).mono ?_) | (with_reducible refine (J110.out _).mono ?_) | (with_reducible refine (J120.out _).mono ?_)); rintro e w2 ⟨rfl, rfl⟩))
      go_ret
      first | exact ⟨rfl, HB0.out⟩ | exact ⟨ret_bool (decide_eq_false (by omega)), HB0.out⟩ | exact ⟨ret_bool (decide_eq_true (by omega)), HB0.out⟩
    have f_lt : (tx.size : Int) ≤ 255 := by omega
    have hres : (true && decide (nm.size ≤ 255) && decide (tx.size ≤ 255) && (decide ((1 : Int) ≤ 1) || id == 0) && (decide ((2 : Int) ≤ 1) || tt == 0) && (decide ((3 : Int) ≤ 1) || aa == 0) && (true || decide (nm.size = 0)) && (true || decide (tx.size = 0))) = true := by simp [c_to, c_at, c_ln, c_lt]
    rw [hres]
    clear hres c_to c_at c_ln c_lt
    go_enter Tryz.func59, Tryz.ntmps59
    go_upto_region 1 with fail
    rw [HW0.out]
    go_wp2_with (first | (go_at_call 130; (with_reducible refine (Hhas.out _).mono ?_); rintro e w1 ⟨rfl, rfl⟩) | (go_at_call 131; (first | (with_reducible refine (J105.out _).mono ?_) | (with_reducible refine (J116.out _).mono ?_) | (with_reducible refine (J97.out _).mono ?_) | (with_reducible refine (J110.out _).mono ?_) | (with_reducible refine (J120.out _).mono ?_)); rintro e w2 ⟨rfl, rfl⟩))
    go_ret
    first | exact ⟨rfl, HB0.out⟩ | exact ⟨ret_bool (decide_eq_false (by omega)), HB0.out⟩ | exact ⟨ret_bool (decide_eq_true (by omega)), HB0.out⟩
  by_cases hk5 : kd = 7
  · rw [show hasS kd = (⟨#[105, 110]⟩ : ByteArray) from by unfold hasS; rw [if_neg hk0]; rw [if_neg hk1]; rw [if_neg hk2]; rw [if_neg hk3]; rw [if_neg hk4]; rw [if_pos hk5]] at hhas
    have j105 : ∀ w, Calls Tryz.prog 131 #[.string ⟨#[105, 110]⟩, .int .u8 105] w fun e w' => e = .returned (.bool true) ∧ w = w' := fun w => in_calls (⟨#[105, 110]⟩ : ByteArray) (by decide) 105 w
    have j116 : ∀ w, Calls Tryz.prog 131 #[.string ⟨#[105, 110]⟩, .int .u8 116] w fun e w' => e = .returned (.bool false) ∧ w = w' := fun w => in_calls (⟨#[105, 110]⟩ : ByteArray) (by decide) 116 w
    have j97 : ∀ w, Calls Tryz.prog 131 #[.string ⟨#[105, 110]⟩, .int .u8 97] w fun e w' => e = .returned (.bool false) ∧ w = w' := fun w => in_calls (⟨#[105, 110]⟩ : ByteArray) (by decide) 97 w
    have j110 : ∀ w, Calls Tryz.prog 131 #[.string ⟨#[105, 110]⟩, .int .u8 110] w fun e w' => e = .returned (.bool true) ∧ w = w' := fun w => in_calls (⟨#[105, 110]⟩ : ByteArray) (by decide) 110 w
    have j120 : ∀ w, Calls Tryz.prog 131 #[.string ⟨#[105, 110]⟩, .int .u8 120] w fun e w' => e = .returned (.bool false) ∧ w = w' := fun w => in_calls (⟨#[105, 110]⟩ : ByteArray) (by decide) 120 w
    have J105 := Lib.hid j105; have J116 := Lib.hid j116; have J97 := Lib.hid j97; have J110 := Lib.hid j110; have J120 := Lib.hid j120
    clear j105 j116 j97 j110 j120
    have Hhas := Lib.hid hhas
    clear hhas
    have s1 : shapeN kd = 1 := by rw [hk5]; rfl
    have s2 : shapeA kd = true := by rw [hk5]; rfl
    have s3 : shapeT kd = false := by rw [hk5]; rfl
    have s4 : decide (1 ≤ kd ∧ kd ≤ 8) = true := decide_eq_true (by omega)
    rw [s1, s2, s3, s4]
    clear s1 s2 s3 s4 hk0 hk1 hk2 hk3 hk4 hk5
    by_cases c_to : tt = 0
    rotate_left
    · have f_to : (tt == 0) = false := by rw [beq_eq_false_iff_ne]; exact c_to
      have hres : (true && decide (nm.size ≤ 255) && decide (tx.size ≤ 255) && (decide ((1 : Int) ≤ 1) || id == 0) && (decide ((2 : Int) ≤ 1) || tt == 0) && (decide ((3 : Int) ≤ 1) || aa == 0) && (true || decide (nm.size = 0)) && (false || decide (tx.size = 0))) = false := by simp [c_to]
      have Hres := Lib.hid hres
      rw [Hres.out]
      clear hres c_to
      go_enter Tryz.func59, Tryz.ntmps59
      go_upto_region 1 with fail
      rw [HW0.out]
      go_wp2_with (first | (go_at_call 130; (with_reducible refine (Hhas.out _).mono ?_); rintro e w1 ⟨rfl, rfl⟩) | (go_at_call 131; (first | (with_reducible refine (J105.out _).mono ?_) | (with_reducible refine (J116.out _).mono ?_) | (with_reducible refine (J97.out _).mono ?_) | (with_reducible refine (J110.out _).mono ?_) | (with_reducible refine (J120.out _).mono ?_)); rintro e w2 ⟨rfl, rfl⟩))
      go_ret
      first | exact ⟨rfl, HB0.out⟩ | exact ⟨ret_bool (decide_eq_false (by omega)), HB0.out⟩ | exact ⟨ret_bool (decide_eq_true (by omega)), HB0.out⟩
    have f_to : (tt == 0) = true := by rw [beq_iff_eq]; exact c_to
    by_cases c_at : aa = 0
    rotate_left
    · have f_at : (aa == 0) = false := by rw [beq_eq_false_iff_ne]; exact c_at
      have hres : (true && decide (nm.size ≤ 255) && decide (tx.size ≤ 255) && (decide ((1 : Int) ≤ 1) || id == 0) && (decide ((2 : Int) ≤ 1) || tt == 0) && (decide ((3 : Int) ≤ 1) || aa == 0) && (true || decide (nm.size = 0)) && (false || decide (tx.size = 0))) = false := by simp [c_at]
      have Hres := Lib.hid hres
      rw [Hres.out]
      clear hres c_to c_at
      go_enter Tryz.func59, Tryz.ntmps59
      go_upto_region 1 with fail
      rw [HW0.out]
      go_wp2_with (first | (go_at_call 130; (with_reducible refine (Hhas.out _).mono ?_); rintro e w1 ⟨rfl, rfl⟩) | (go_at_call 131; (first | (with_reducible refine (J105.out _).mono ?_) | (with_reducible refine (J116.out _).mono ?_) | (with_reducible refine (J97.out _).mono ?_) | (with_reducible refine (J110.out _).mono ?_) | (with_reducible refine (J120.out _).mono ?_)); rintro e w2 ⟨rfl, rfl⟩))
      go_ret
      first | exact ⟨rfl, HB0.out⟩ | exact ⟨ret_bool (decide_eq_false (by omega)), HB0.out⟩ | exact ⟨ret_bool (decide_eq_true (by omega)), HB0.out⟩
    have f_at : (aa == 0) = true := by rw [beq_iff_eq]; exact c_at
    by_cases c_tx : tx.size = 0
    rotate_left
    · have f_tx : (tx.toList == []) = false := by rw [str_nil]; exact decide_eq_false c_tx
      have g_tx : tx.toList.isEmpty = false := by have e := f_tx; revert e; cases tx.toList <;> simp
      have hres : (true && decide (nm.size ≤ 255) && decide (tx.size ≤ 255) && (decide ((1 : Int) ≤ 1) || id == 0) && (decide ((2 : Int) ≤ 1) || tt == 0) && (decide ((3 : Int) ≤ 1) || aa == 0) && (true || decide (nm.size = 0)) && (false || decide (tx.size = 0))) = false := by simp [c_tx]
      have Hres := Lib.hid hres
      rw [Hres.out]
      clear hres c_to c_at c_tx
      go_enter Tryz.func59, Tryz.ntmps59
      go_upto_region 1 with fail
      rw [HW0.out]
      go_wp2_with (first | (go_at_call 130; (with_reducible refine (Hhas.out _).mono ?_); rintro e w1 ⟨rfl, rfl⟩) | (go_at_call 131; (first | (with_reducible refine (J105.out _).mono ?_) | (with_reducible refine (J116.out _).mono ?_) | (with_reducible refine (J97.out _).mono ?_) | (with_reducible refine (J110.out _).mono ?_) | (with_reducible refine (J120.out _).mono ?_)); rintro e w2 ⟨rfl, rfl⟩))
      go_ret
      first | exact ⟨rfl, HB0.out⟩ | exact ⟨ret_bool (decide_eq_false (by omega)), HB0.out⟩ | exact ⟨ret_bool (decide_eq_true (by omega)), HB0.out⟩
    have f_tx : (tx.toList == []) = true := by rw [str_nil]; exact decide_eq_true c_tx
    have g_tx : tx.toList.isEmpty = true := by have e := f_tx; revert e; cases tx.toList <;> simp
    have i_tx : (tx.size : Int) ≤ 255 := by omega
    by_cases c_ln : nm.size ≤ 255
    rotate_left
    · have f_ln : ¬ (nm.size : Int) ≤ 255 := by omega
      have hres : (true && decide (nm.size ≤ 255) && decide (tx.size ≤ 255) && (decide ((1 : Int) ≤ 1) || id == 0) && (decide ((2 : Int) ≤ 1) || tt == 0) && (decide ((3 : Int) ≤ 1) || aa == 0) && (true || decide (nm.size = 0)) && (false || decide (tx.size = 0))) = false := by simp [c_ln]
      have Hres := Lib.hid hres
      rw [Hres.out]
      clear hres c_to c_at c_tx c_ln
      go_enter Tryz.func59, Tryz.ntmps59
      go_upto_region 1 with fail
      rw [HW0.out]
      go_wp2_with (first | (go_at_call 130; (with_reducible refine (Hhas.out _).mono ?_); rintro e w1 ⟨rfl, rfl⟩) | (go_at_call 131; (first | (with_reducible refine (J105.out _).mono ?_) | (with_reducible refine (J116.out _).mono ?_) | (with_reducible refine (J97.out _).mono ?_) | (with_reducible refine (J110.out _).mono ?_) | (with_reducible refine (J120.out _).mono ?_)); rintro e w2 ⟨rfl, rfl⟩))
      go_ret
      first | exact ⟨rfl, HB0.out⟩ | exact ⟨ret_bool (decide_eq_false (by omega)), HB0.out⟩ | exact ⟨ret_bool (decide_eq_true (by omega)), HB0.out⟩
    have f_ln : (nm.size : Int) ≤ 255 := by omega
    have hres : (true && decide (nm.size ≤ 255) && decide (tx.size ≤ 255) && (decide ((1 : Int) ≤ 1) || id == 0) && (decide ((2 : Int) ≤ 1) || tt == 0) && (decide ((3 : Int) ≤ 1) || aa == 0) && (true || decide (nm.size = 0)) && (false || decide (tx.size = 0))) = true := by simp [c_to, c_at, c_tx, c_ln]
    rw [hres]
    clear hres c_to c_at c_tx c_ln
    go_enter Tryz.func59, Tryz.ntmps59
    go_upto_region 1 with fail
    rw [HW0.out]
    go_wp2_with (first | (go_at_call 130; (with_reducible refine (Hhas.out _).mono ?_); rintro e w1 ⟨rfl, rfl⟩) | (go_at_call 131; (first | (with_reducible refine (J105.out _).mono ?_) | (with_reducible refine (J116.out _).mono ?_) | (with_reducible refine (J97.out _).mono ?_) | (with_reducible refine (J110.out _).mono ?_) | (with_reducible refine (J120.out _).mono ?_)); rintro e w2 ⟨rfl, rfl⟩))
    go_ret
    first | exact ⟨rfl, HB0.out⟩ | exact ⟨ret_bool (decide_eq_false (by omega)), HB0.out⟩ | exact ⟨ret_bool (decide_eq_true (by omega)), HB0.out⟩
  by_cases hk6 : kd = 8
  · rw [show hasS kd = (⟨#[105, 120]⟩ : ByteArray) from by unfold hasS; rw [if_neg hk0]; rw [if_neg hk1]; rw [if_neg hk2]; rw [if_neg hk3]; rw [if_neg hk4]; rw [if_neg hk5]; rw [if_pos hk6]] at hhas
    have j105 : ∀ w, Calls Tryz.prog 131 #[.string ⟨#[105, 120]⟩, .int .u8 105] w fun e w' => e = .returned (.bool true) ∧ w = w' := fun w => in_calls (⟨#[105, 120]⟩ : ByteArray) (by decide) 105 w
    have j116 : ∀ w, Calls Tryz.prog 131 #[.string ⟨#[105, 120]⟩, .int .u8 116] w fun e w' => e = .returned (.bool false) ∧ w = w' := fun w => in_calls (⟨#[105, 120]⟩ : ByteArray) (by decide) 116 w
    have j97 : ∀ w, Calls Tryz.prog 131 #[.string ⟨#[105, 120]⟩, .int .u8 97] w fun e w' => e = .returned (.bool false) ∧ w = w' := fun w => in_calls (⟨#[105, 120]⟩ : ByteArray) (by decide) 97 w
    have j110 : ∀ w, Calls Tryz.prog 131 #[.string ⟨#[105, 120]⟩, .int .u8 110] w fun e w' => e = .returned (.bool false) ∧ w = w' := fun w => in_calls (⟨#[105, 120]⟩ : ByteArray) (by decide) 110 w
    have j120 : ∀ w, Calls Tryz.prog 131 #[.string ⟨#[105, 120]⟩, .int .u8 120] w fun e w' => e = .returned (.bool true) ∧ w = w' := fun w => in_calls (⟨#[105, 120]⟩ : ByteArray) (by decide) 120 w
    have J105 := Lib.hid j105; have J116 := Lib.hid j116; have J97 := Lib.hid j97; have J110 := Lib.hid j110; have J120 := Lib.hid j120
    clear j105 j116 j97 j110 j120
    have Hhas := Lib.hid hhas
    clear hhas
    have s1 : shapeN kd = 1 := by rw [hk6]; rfl
    have s2 : shapeA kd = false := by rw [hk6]; rfl
    have s3 : shapeT kd = true := by rw [hk6]; rfl
    have s4 : decide (1 ≤ kd ∧ kd ≤ 8) = true := decide_eq_true (by omega)
    rw [s1, s2, s3, s4]
    clear s1 s2 s3 s4 hk0 hk1 hk2 hk3 hk4 hk5 hk6
    by_cases c_to : tt = 0
    rotate_left
    · have f_to : (tt == 0) = false := by rw [beq_eq_false_iff_ne]; exact c_to
      have hres : (true && decide (nm.size ≤ 255) && decide (tx.size ≤ 255) && (decide ((1 : Int) ≤ 1) || id == 0) && (decide ((2 : Int) ≤ 1) || tt == 0) && (decide ((3 : Int) ≤ 1) || aa == 0) && (false || decide (nm.size = 0)) && (true || decide (tx.size = 0))) = false := by simp [c_to]
      have Hres := Lib.hid hres
      rw [Hres.out]
      clear hres c_to
      go_enter Tryz.func59, Tryz.ntmps59
      go_upto_region 1 with fail
      rw [HW0.out]
      go_wp2_with (first | (go_at_call 130; (with_reducible refine (Hhas.out _).mono ?_); rintro e w1 ⟨rfl, rfl⟩) | (go_at_call 131; (first | (with_reducible refine (J105.out _).mono ?_) | (with_reducible refine (J116.out _).mono ?_) | (with_reducible refine (J97.out _).mono ?_) | (with_reducible refine (J110.out _).mono ?_) | (with_reducible refine (J120.out _).mono ?_)); rintro e w2 ⟨rfl, rfl⟩))
      go_ret
      first | exact ⟨rfl, HB0.out⟩ | exact ⟨ret_bool (decide_eq_false (by omega)), HB0.out⟩ | exact ⟨ret_bool (decide_eq_true (by omega)), HB0.out⟩
    have f_to : (tt == 0) = true := by rw [beq_iff_eq]; exact c_to
    by_cases c_at : aa = 0
    rotate_left
    · have f_at : (aa == 0) = false := by rw [beq_eq_false_iff_ne]; exact c_at
      have hres : (true && decide (nm.size ≤ 255) && decide (tx.size ≤ 255) && (decide ((1 : Int) ≤ 1) || id == 0) && (decide ((2 : Int) ≤ 1) || tt == 0) && (decide ((3 : Int) ≤ 1) || aa == 0) && (false || decide (nm.size = 0)) && (true || decide (tx.size = 0))) = false := by simp [c_at]
      have Hres := Lib.hid hres
      rw [Hres.out]
      clear hres c_to c_at
      go_enter Tryz.func59, Tryz.ntmps59
      go_upto_region 1 with fail
      rw [HW0.out]
      go_wp2_with (first | (go_at_call 130; (with_reducible refine (Hhas.out _).mono ?_); rintro e w1 ⟨rfl, rfl⟩) | (go_at_call 131; (first | (with_reducible refine (J105.out _).mono ?_) | (with_reducible refine (J116.out _).mono ?_) | (with_reducible refine (J97.out _).mono ?_) | (with_reducible refine (J110.out _).mono ?_) | (with_reducible refine (J120.out _).mono ?_)); rintro e w2 ⟨rfl, rfl⟩))
      go_ret
      first | exact ⟨rfl, HB0.out⟩ | exact ⟨ret_bool (decide_eq_false (by omega)), HB0.out⟩ | exact ⟨ret_bool (decide_eq_true (by omega)), HB0.out⟩
    have f_at : (aa == 0) = true := by rw [beq_iff_eq]; exact c_at
    by_cases c_nm : nm.size = 0
    rotate_left
    · have f_nm : (nm.toList == []) = false := by rw [str_nil]; exact decide_eq_false c_nm
      have g_nm : nm.toList.isEmpty = false := by have e := f_nm; revert e; cases nm.toList <;> simp
      have hres : (true && decide (nm.size ≤ 255) && decide (tx.size ≤ 255) && (decide ((1 : Int) ≤ 1) || id == 0) && (decide ((2 : Int) ≤ 1) || tt == 0) && (decide ((3 : Int) ≤ 1) || aa == 0) && (false || decide (nm.size = 0)) && (true || decide (tx.size = 0))) = false := by simp [c_nm]
      have Hres := Lib.hid hres
      rw [Hres.out]
      clear hres c_to c_at c_nm
      go_enter Tryz.func59, Tryz.ntmps59
      go_upto_region 1 with fail
      rw [HW0.out]
      go_wp2_with (first | (go_at_call 130; (with_reducible refine (Hhas.out _).mono ?_); rintro e w1 ⟨rfl, rfl⟩) | (go_at_call 131; (first | (with_reducible refine (J105.out _).mono ?_) | (with_reducible refine (J116.out _).mono ?_) | (with_reducible refine (J97.out _).mono ?_) | (with_reducible refine (J110.out _).mono ?_) | (with_reducible refine (J120.out _).mono ?_)); rintro e w2 ⟨rfl, rfl⟩))
      go_ret
      first | exact ⟨rfl, HB0.out⟩ | exact ⟨ret_bool (decide_eq_false (by omega)), HB0.out⟩ | exact ⟨ret_bool (decide_eq_true (by omega)), HB0.out⟩
    have f_nm : (nm.toList == []) = true := by rw [str_nil]; exact decide_eq_true c_nm
    have g_nm : nm.toList.isEmpty = true := by have e := f_nm; revert e; cases nm.toList <;> simp
    have i_nm : (nm.size : Int) ≤ 255 := by omega
    by_cases c_lt : tx.size ≤ 255
    rotate_left
    · have f_lt : ¬ (tx.size : Int) ≤ 255 := by omega
      have hres : (true && decide (nm.size ≤ 255) && decide (tx.size ≤ 255) && (decide ((1 : Int) ≤ 1) || id == 0) && (decide ((2 : Int) ≤ 1) || tt == 0) && (decide ((3 : Int) ≤ 1) || aa == 0) && (false || decide (nm.size = 0)) && (true || decide (tx.size = 0))) = false := by simp [c_lt]
      have Hres := Lib.hid hres
      rw [Hres.out]
      clear hres c_to c_at c_nm c_lt
      go_enter Tryz.func59, Tryz.ntmps59
      go_upto_region 1 with fail
      rw [HW0.out]
      go_wp2_with (first | (go_at_call 130; (with_reducible refine (Hhas.out _).mono ?_); rintro e w1 ⟨rfl, rfl⟩) | (go_at_call 131; (first | (with_reducible refine (J105.out _).mono ?_) | (with_reducible refine (J116.out _).mono ?_) | (with_reducible refine (J97.out _).mono ?_) | (with_reducible refine (J110.out _).mono ?_) | (with_reducible refine (J120.out _).mono ?_)); rintro e w2 ⟨rfl, rfl⟩))
      go_ret
      first | exact ⟨rfl, HB0.out⟩ | exact ⟨ret_bool (decide_eq_false (by omega)), HB0.out⟩ | exact ⟨ret_bool (decide_eq_true (by omega)), HB0.out⟩
    have f_lt : (tx.size : Int) ≤ 255 := by omega
    have hres : (true && decide (nm.size ≤ 255) && decide (tx.size ≤ 255) && (decide ((1 : Int) ≤ 1) || id == 0) && (decide ((2 : Int) ≤ 1) || tt == 0) && (decide ((3 : Int) ≤ 1) || aa == 0) && (false || decide (nm.size = 0)) && (true || decide (tx.size = 0))) = true := by simp [c_to, c_at, c_nm, c_lt]
    rw [hres]
    clear hres c_to c_at c_nm c_lt
    go_enter Tryz.func59, Tryz.ntmps59
    go_upto_region 1 with fail
    rw [HW0.out]
    go_wp2_with (first | (go_at_call 130; (with_reducible refine (Hhas.out _).mono ?_); rintro e w1 ⟨rfl, rfl⟩) | (go_at_call 131; (first | (with_reducible refine (J105.out _).mono ?_) | (with_reducible refine (J116.out _).mono ?_) | (with_reducible refine (J97.out _).mono ?_) | (with_reducible refine (J110.out _).mono ?_) | (with_reducible refine (J120.out _).mono ?_)); rintro e w2 ⟨rfl, rfl⟩))
    go_ret
    first | exact ⟨rfl, HB0.out⟩ | exact ⟨ret_bool (decide_eq_false (by omega)), HB0.out⟩ | exact ⟨ret_bool (decide_eq_true (by omega)), HB0.out⟩
  rw [show hasS kd = ⟨#[]⟩ from by unfold hasS; rw [if_neg hk0, if_neg hk1, if_neg hk2, if_neg hk3, if_neg hk4, if_neg hk5, if_neg hk6]] at hhas
  have s4 : decide (1 ≤ kd ∧ kd ≤ 8) = false := decide_eq_false (by omega)
  rw [s4]
  simp only [Bool.false_and]
  have Hhas := Lib.hid hhas
  clear hhas s4 hk0 hk1 hk2 hk3 hk4 hk5 hk6
  go_enter Tryz.func59, Tryz.ntmps59
  go_upto_region 1 with fail
  rw [HW0.out]
  go_wp2_with (go_at_call 130; (with_reducible refine (Hhas.out _).mono ?_); rintro e w1 ⟨rfl, rfl⟩)
  go_ret
  exact ⟨rfl, HB0.out⟩
end Go.Proofs.YthdenkkllpkplaaGreat.R6
end
