/- Equality: slices.Equal, forest.Same, and the document's. -/
import Derived.Test.YtbbompmpecblgaaFTops
namespace Go.Proofs.Ytbbompmpecblgaa.FSame
open Go Go.RowKit Go.Proofs.Ytbbompmpecblgaa.Seq Go.Proofs.Ytbbompmpecblgaa.WS Go.Proofs.Ytbbompmpecblgaa.FS Go.Proofs.Ytbbompmpecblgaa.WordIt Go.Proofs.Ytbbompmpecblgaa.Mem Go.Proofs.Ytbbompmpecblgaa.Rd Go.Proofs.Ytbbompmpecblgaa.Word Go.Proofs.Ytbbompmpecblgaa.WordHas Go.Proofs.Ytbbompmpecblgaa.Shapes Go.Proofs.Ytbbompmpecblgaa.FFam Go.Proofs.Ytbbompmpecblgaa.FMay
set_option linter.unusedVariables false
set_option linter.unusedSimpArgs false

theorem list_ne_len {α : Type} [DecidableEq α] {a b : List α} (h : a.length ≠ b.length) : decide (a = b) = false := decide_eq_false (fun e => h (by rw [e]))
theorem list_ne_at {α : Type} [DecidableEq α] {a b : List α} {k : Nat} (ha : k < a.length) (hb : k < b.length) (h : a[k] ≠ b[k]) : decide (a = b) = false := decide_eq_false (fun e => by subst e; exact h rfl)
theorem list_eq_at {α : Type} [DecidableEq α] {a b : List α} (hl : a.length = b.length) (h : ∀ j (ha : j < a.length) (hb : j < b.length), a[j] = b[j]) : decide (a = b) = true := decide_eq_true (List.ext_getElem hl h)

set_option maxRecDepth 100000 in
theorem EqualInts_calls (w : World) (v1 v2 : Value) (a b : List Int) (h1 : RdL (intE .i64) 1 w.heap.size w v1 a) (h2 : RdL (intE .i64) 1 w.heap.size w v2 b) :
    Calls Try.prog 63 #[v1, v2] w fun e w' => e = .returned (.bool (decide (a = b))) ∧ Below w.heap.size w w' := by
  have HR1 := Lib.hid (fun w' hb => h1.below (intE_keeps _) (w' := w') hb (Nat.le_refl _))
  have HR2 := Lib.hid (fun w' hb => h2.below (intE_keeps _) (w' := w') hb (Nat.le_refl _))
  obtain ⟨A1, c1, rfl, l1, m1, _⟩ := h1.form
  obtain ⟨A2, c2, rfl, l2, m2, _⟩ := h2.form
  simp only [maxLen] at m1 m2
  clear h1 h2
  by_cases hl : a.length = b.length
  case neg =>
    have hr := list_ne_len hl
    have e1 : ((a.length : Int) == (b.length : Int)) = false := by rw [beq_eq_false_iff_ne]; omega
    have e2 : ((a.length : Int) != (b.length : Int)) = true := by rw [bne_iff_ne]; omega
    have Hr := Lib.hid hr; clear hr hl
    go_enter Try.func63, Try.ntmps63
    go_wp2_with fail
    go_ret
    exact ⟨ret_bool Hr.out.symm, Below.refl _ _⟩
  case pos =>
    have e1 : ((a.length : Int) == (b.length : Int)) = true := by rw [beq_iff_eq]; omega
    have e2 : ((a.length : Int) != (b.length : Int)) = false := by rw [hl]; simp
    have hne := fun k ha hb h => list_ne_at (a := a) (b := b) (k := k) ha hb h
    have heq := list_eq_at (a := a) (b := b) hl
    have Hne := Lib.hid hne; have Heq := Lib.hid heq
    clear hne heq
    go_enter Try.func63, Try.ntmps63
    go_wp2_with fail
    go_loopw [13] (fun i wr => ∃ k : Nat, k ≤ a.length ∧ i = .int .i64 k ∧ Below w.heap.size w wr ∧ ∀ j (ha : j < a.length) (hb : j < b.length), j < k → a[j] = b[j]) (fun i _ => a.length - (intOf i).toNat)
    case atStart => exact ⟨0, Nat.zero_le _, rfl, Below.refl _ _, fun j _ _ h => by omega⟩
    case round =>
      obtain ⟨k, hk, rfl, hb, hall⟩ := hrel
      by_cases hlt : k < a.length
      · obtain ⟨b1, o1, he1, _, g1, _⟩ := intE_at (HR1.out _ hb) (i := k) hlt
        obtain ⟨b2, o2, he2, _, g2, _⟩ := intE_at (HR2.out _ hb) (i := k) (by omega)
        subst he1
        subst he2
        have hnx : a[k] = b[k]'(by omega) → ∀ j (ha : j < a.length) (hb : j < b.length), j < k + 1 → a[j] = b[j] := fun h j ha hb hj => by
          by_cases e : j = k
          · subst e; exact h
          · exact hall j ha hb (by omega)
        have hno := Hne.out k hlt (by omega)
        have Hb := Lib.hid hb
        clear hb hall
        generalize a[k] = x at *
        generalize b[k]'(by omega) = y at *
        by_cases hxy : x = y
        · subst hxy
          have Hnx := Lib.hid (hnx rfl)
          have e3 : (x != x) = false := by simp
          clear hnx hno
          go_wp2_with fail
          go_region
          go_wp2_with fail
          go_roundw
          case rel => exact ⟨k + 1, by omega, by go_num, by first | exact Hb.out | exact Hb.out.drew, Hnx.out⟩
          case measure => simp [intOf]; omega
        · have Hno := Lib.hid (hno hxy)
          have e3 : (x == y) = false := by rw [beq_eq_false_iff_ne]; exact hxy
          have e4 : (x != y) = true := by rw [bne_iff_ne]; exact hxy
          clear hnx hno hxy
          go_wp2_with fail
          go_region
          go_wp2_with fail
          go_ret
          exact ⟨ret_bool Hno.out.symm, by first | exact Hb.out | exact Hb.out.drew⟩
      · have hr := Heq.out (fun j ha hb => hall j ha hb (by omega))
        have Hr := Lib.hid hr; have Hb := Lib.hid hb
        clear hb hall hr
        obtain rfl : k = a.length := by omega
        go_wp2_with fail
        go_ret
        exact ⟨ret_bool Hr.out.symm, Hb.out⟩
set_option maxRecDepth 100000 in
theorem RefInts_calls (w : World) (v1 v2 : Value) (a b : List Int) (h1 : RdL (intE .i64) 1 w.heap.size w v1 a) (h2 : RdL (intE .i64) 1 w.heap.size w v2 b) :
    Calls Try.prog 51 #[v1, v2] w fun e w' => e = .returned (.bool (decide (a = b))) ∧ Below w.heap.size w w' := by
  have HR1 := Lib.hid (fun w' hb => h1.below (intE_keeps _) (w' := w') hb (Nat.le_refl _))
  have HR2 := Lib.hid (fun w' hb => h2.below (intE_keeps _) (w' := w') hb (Nat.le_refl _))
  obtain ⟨A1, c1, rfl, l1, m1, _⟩ := h1.form
  obtain ⟨A2, c2, rfl, l2, m2, _⟩ := h2.form
  simp only [maxLen] at m1 m2
  clear h1 h2
  by_cases hl : a.length = b.length
  case neg =>
    have hr := list_ne_len hl
    have e1 : ((a.length : Int) == (b.length : Int)) = false := by rw [beq_eq_false_iff_ne]; omega
    have e2 : ((a.length : Int) != (b.length : Int)) = true := by rw [bne_iff_ne]; omega
    have Hr := Lib.hid hr; clear hr hl
    go_enter Try.func51, Try.ntmps51
    go_wp2_with fail
    go_ret
    exact ⟨ret_bool Hr.out.symm, Below.refl _ _⟩
  case pos =>
    have e1 : ((a.length : Int) == (b.length : Int)) = true := by rw [beq_iff_eq]; omega
    have e2 : ((a.length : Int) != (b.length : Int)) = false := by rw [hl]; simp
    have hne := fun k ha hb h => list_ne_at (a := a) (b := b) (k := k) ha hb h
    have heq := list_eq_at (a := a) (b := b) hl
    have Hne := Lib.hid hne; have Heq := Lib.hid heq
    clear hne heq
    go_enter Try.func51, Try.ntmps51
    go_wp2_with fail
    go_loopw [5] (fun i wr => ∃ k : Nat, k ≤ a.length ∧ i = .int .i64 k ∧ Below w.heap.size w wr ∧ ∀ j (ha : j < a.length) (hb : j < b.length), j < k → a[j] = b[j]) (fun i _ => a.length - (intOf i).toNat)
    case atStart => exact ⟨0, Nat.zero_le _, rfl, Below.refl _ _, fun j _ _ h => by omega⟩
    case round =>
      obtain ⟨k, hk, rfl, hb, hall⟩ := hrel
      by_cases hlt : k < a.length
      · obtain ⟨b1, o1, he1, _, g1, _⟩ := intE_at (HR1.out _ hb) (i := k) hlt
        obtain ⟨b2, o2, he2, _, g2, _⟩ := intE_at (HR2.out _ hb) (i := k) (by omega)
        subst he1
        subst he2
        have hnx : a[k] = b[k]'(by omega) → ∀ j (ha : j < a.length) (hb : j < b.length), j < k + 1 → a[j] = b[j] := fun h j ha hb hj => by
          by_cases e : j = k
          · subst e; exact h
          · exact hall j ha hb (by omega)
        have hno := Hne.out k hlt (by omega)
        have Hb := Lib.hid hb
        clear hb hall
        generalize a[k] = x at *
        generalize b[k]'(by omega) = y at *
        by_cases hxy : x = y
        · subst hxy
          have Hnx := Lib.hid (hnx rfl)
          have e3 : (x != x) = false := by simp
          clear hnx hno
          go_wp2_with fail
          go_region
          go_wp2_with fail
          go_roundw
          case rel => exact ⟨k + 1, by omega, by go_num, by first | exact Hb.out | exact Hb.out.drew, Hnx.out⟩
          case measure => simp [intOf]; omega
        · have Hno := Lib.hid (hno hxy)
          have e3 : (x == y) = false := by rw [beq_eq_false_iff_ne]; exact hxy
          have e4 : (x != y) = true := by rw [bne_iff_ne]; exact hxy
          clear hnx hno hxy
          go_wp2_with fail
          go_region
          go_wp2_with fail
          go_ret
          exact ⟨ret_bool Hno.out.symm, by first | exact Hb.out | exact Hb.out.drew⟩
      · have hr := Heq.out (fun j ha hb => hall j ha hb (by omega))
        have Hr := Lib.hid hr; have Hb := Lib.hid hb
        clear hb hall hr
        obtain rfl : k = a.length := by omega
        go_wp2_with fail
        go_ret
        exact ⟨ret_bool Hr.out.symm, Hb.out⟩
theorem str_beq (a b : ByteArray) : (a.toList == b.toList) = decide (a = b) := by
  rw [← beq_toListBytes, Bool.eq_iff_iff, Go.MapKept.bytes_beq, decide_eq_true_eq]
theorem str_inj (a b : ByteArray) : (a.toList = b.toList) = (a = b) := by
  have := str_beq a b
  by_cases h : a = b
  · simp [h]
  · rw [decide_eq_false h] at this
    have h2 : ¬ a.toList = b.toList := by simpa using this
    simp [h, h2]
theorem neq_attr (x y : Av) (w : World) : (binOp .neq 80 (.agg #[.string x.name, .string x.value]) (.agg #[.string y.name, .string y.value])).run Try.prog w = .ok (.bool (!decide (x = y))) w := by
  have u3 := Try.underlying9
  have a3 := Try.isAgg9
  have z3 := Try.sizeOf9
  have hS : Try.prog.underlying 80 = some (.struct (Try.prog.fieldsOf 80)) := by kernel_rfl
  have hp : Try.prog.stoodInHeld 80 = false := by kernel_rfl
  rw [run_neq_struct, show (10000 : Nat) = 9999 + 1 from rfl, run_equalIn_agg w 9999 80 _ _ hS hp]
  simp only [Program.fieldsOf, Try.underlying80]
  go_simp
  obtain ⟨xn, xv⟩ := x
  obtain ⟨yn, yv⟩ := y
  by_cases h1 : xn = yn <;> by_cases h2 : xv = yv <;> simp [h1, h2, str_inj]
theorem neq_rattr (x y : Av) (w : World) : (binOp .neq 88 (.agg #[.string x.name, .string x.value]) (.agg #[.string y.name, .string y.value])).run Try.prog w = .ok (.bool (!decide (x = y))) w := by
  have u3 := Try.underlying9
  have a3 := Try.isAgg9
  have z3 := Try.sizeOf9
  have hS : Try.prog.underlying 88 = some (.struct (Try.prog.fieldsOf 88)) := by kernel_rfl
  have hp : Try.prog.stoodInHeld 88 = false := by kernel_rfl
  rw [run_neq_struct, show (10000 : Nat) = 9999 + 1 from rfl, run_equalIn_agg w 9999 88 _ _ hS hp]
  simp only [Program.fieldsOf, Try.underlying88]
  go_simp
  obtain ⟨xn, xv⟩ := x
  obtain ⟨yn, yv⟩ := y
  by_cases h1 : xn = yn <;> by_cases h2 : xv = yv <;> simp [h1, h2, str_inj]
set_option maxRecDepth 100000 in
theorem EqualAttrs_calls (w : World) (v1 v2 : Value) (a b : List Av) (h1 : RdL attrE 2 w.heap.size w v1 a) (h2 : RdL attrE 2 w.heap.size w v2 b) :
    Calls Try.prog 62 #[v1, v2] w fun e w' => e = .returned (.bool (decide (a = b))) ∧ Below w.heap.size w w' := by
  have HR1 := Lib.hid (fun w' hb => h1.below attrE_keeps (w' := w') hb (Nat.le_refl _))
  have HR2 := Lib.hid (fun w' hb => h2.below attrE_keeps (w' := w') hb (Nat.le_refl _))
  obtain ⟨A1, c1, rfl, l1, m1, _⟩ := h1.form
  obtain ⟨A2, c2, rfl, l2, m2, _⟩ := h2.form
  simp only [maxLen] at m1 m2
  clear h1 h2
  by_cases hl : a.length = b.length
  case neg =>
    have hr := list_ne_len hl
    have e1 : ((a.length : Int) == (b.length : Int)) = false := by rw [beq_eq_false_iff_ne]; omega
    have e2 : ((a.length : Int) != (b.length : Int)) = true := by rw [bne_iff_ne]; omega
    have Hr := Lib.hid hr; clear hr hl
    go_enter Try.func62, Try.ntmps62
    go_wp2_with fail
    go_ret
    exact ⟨ret_bool Hr.out.symm, Below.refl _ _⟩
  case pos =>
    have e1 : ((a.length : Int) == (b.length : Int)) = true := by rw [beq_iff_eq]; omega
    have e2 : ((a.length : Int) != (b.length : Int)) = false := by rw [hl]; simp
    have hne := fun k ha hb h => list_ne_at (a := a) (b := b) (k := k) ha hb h
    have heq := list_eq_at (a := a) (b := b) hl
    have Hne := Lib.hid hne; have Heq := Lib.hid heq
    clear hne heq
    go_enter Try.func62, Try.ntmps62
    go_wp2_with fail
    go_loopw [13] (fun i wr => ∃ k : Nat, k ≤ a.length ∧ i = .int .i64 k ∧ Below w.heap.size w wr ∧ ∀ j (ha : j < a.length) (hb : j < b.length), j < k → a[j] = b[j]) (fun i _ => a.length - (intOf i).toNat)
    case atStart => exact ⟨0, Nat.zero_le _, rfl, Below.refl _ _, fun j _ _ h => by omega⟩
    case round =>
      obtain ⟨k, hk, rfl, hb, hall⟩ := hrel
      by_cases hlt : k < a.length
      · obtain ⟨b1, o1, he1, _, g1, g1', _⟩ := FAttr.attr_at (HR1.out _ hb) (i := k) hlt
        obtain ⟨b2, o2, he2, _, g2, g2', _⟩ := FAttr.attr_at (HR2.out _ hb) (i := k) (by omega)
        subst he1
        subst he2
        have hnx : a[k] = b[k]'(by omega) → ∀ j (ha : j < a.length) (hb : j < b.length), j < k + 1 → a[j] = b[j] := fun h j ha hb hj => by
          by_cases e : j = k
          · subst e; exact h
          · exact hall j ha hb (by omega)
        have hno := Hne.out k hlt (by omega)
        have Hb := Lib.hid hb
        clear hb hall
        generalize a[k] = x at *
        generalize b[k]'(by omega) = y at *
        have hq := neq_attr x y
        have hgd : Try.prog.eqGuardType Try.prog.depth 80 = false := by kernel_rfl
        obtain ⟨xn, xv⟩ := x
        obtain ⟨yn, yv⟩ := y
        simp only at *
        by_cases hxy : (⟨xn, xv⟩ : Av) = ⟨yn, yv⟩
        · have Hnx := Lib.hid (hnx hxy)
          rw [decide_eq_true hxy] at hq
          simp only [Bool.not_true] at hq
          clear hnx hno hxy
          go_wp2_with fail
          go_region
          go_wp2_with fail
          go_roundw
          case rel => exact ⟨k + 1, by omega, by go_num, by first | exact Hb.out | exact Hb.out.drew, Hnx.out⟩
          case measure => simp [intOf]; omega
        · have Hno := Lib.hid (hno hxy)
          rw [decide_eq_false hxy] at hq
          simp only [Bool.not_false] at hq
          clear hnx hno hxy
          go_wp2_with fail
          go_region
          go_wp2_with fail
          go_ret
          exact ⟨ret_bool Hno.out.symm, by first | exact Hb.out | exact Hb.out.drew⟩
      · have hr := Heq.out (fun j ha hb => hall j ha hb (by omega))
        have Hr := Lib.hid hr; have Hb := Lib.hid hb
        clear hb hall hr
        obtain rfl : k = a.length := by omega
        go_wp2_with fail
        go_ret
        exact ⟨ret_bool Hr.out.symm, Hb.out⟩
set_option maxRecDepth 100000 in
theorem RefAttrs_calls (w : World) (v1 v2 : Value) (a b : List Av) (h1 : RdL attrE 2 w.heap.size w v1 a) (h2 : RdL attrE 2 w.heap.size w v2 b) :
    Calls Try.prog 86 #[v1, v2] w fun e w' => e = .returned (.bool (decide (a = b))) ∧ Below w.heap.size w w' := by
  have HR1 := Lib.hid (fun w' hb => h1.below attrE_keeps (w' := w') hb (Nat.le_refl _))
  have HR2 := Lib.hid (fun w' hb => h2.below attrE_keeps (w' := w') hb (Nat.le_refl _))
  obtain ⟨A1, c1, rfl, l1, m1, _⟩ := h1.form
  obtain ⟨A2, c2, rfl, l2, m2, _⟩ := h2.form
  simp only [maxLen] at m1 m2
  clear h1 h2
  by_cases hl : a.length = b.length
  case neg =>
    have hr := list_ne_len hl
    have e1 : ((a.length : Int) == (b.length : Int)) = false := by rw [beq_eq_false_iff_ne]; omega
    have e2 : ((a.length : Int) != (b.length : Int)) = true := by rw [bne_iff_ne]; omega
    have Hr := Lib.hid hr; clear hr hl
    go_enter Try.func86, Try.ntmps86
    go_wp2_with fail
    go_ret
    exact ⟨ret_bool Hr.out.symm, Below.refl _ _⟩
  case pos =>
    have e1 : ((a.length : Int) == (b.length : Int)) = true := by rw [beq_iff_eq]; omega
    have e2 : ((a.length : Int) != (b.length : Int)) = false := by rw [hl]; simp
    have hne := fun k ha hb h => list_ne_at (a := a) (b := b) (k := k) ha hb h
    have heq := list_eq_at (a := a) (b := b) hl
    have Hne := Lib.hid hne; have Heq := Lib.hid heq
    clear hne heq
    go_enter Try.func86, Try.ntmps86
    go_wp2_with fail
    go_loopw [5] (fun i wr => ∃ k : Nat, k ≤ a.length ∧ i = .int .i64 k ∧ Below w.heap.size w wr ∧ ∀ j (ha : j < a.length) (hb : j < b.length), j < k → a[j] = b[j]) (fun i _ => a.length - (intOf i).toNat)
    case atStart => exact ⟨0, Nat.zero_le _, rfl, Below.refl _ _, fun j _ _ h => by omega⟩
    case round =>
      obtain ⟨k, hk, rfl, hb, hall⟩ := hrel
      by_cases hlt : k < a.length
      · obtain ⟨b1, o1, he1, _, g1, g1', _⟩ := FAttr.attr_at (HR1.out _ hb) (i := k) hlt
        obtain ⟨b2, o2, he2, _, g2, g2', _⟩ := FAttr.attr_at (HR2.out _ hb) (i := k) (by omega)
        subst he1
        subst he2
        have hnx : a[k] = b[k]'(by omega) → ∀ j (ha : j < a.length) (hb : j < b.length), j < k + 1 → a[j] = b[j] := fun h j ha hb hj => by
          by_cases e : j = k
          · subst e; exact h
          · exact hall j ha hb (by omega)
        have hno := Hne.out k hlt (by omega)
        have Hb := Lib.hid hb
        clear hb hall
        generalize a[k] = x at *
        generalize b[k]'(by omega) = y at *
        have hq := neq_rattr x y
        have hgd : Try.prog.eqGuardType Try.prog.depth 88 = false := by kernel_rfl
        obtain ⟨xn, xv⟩ := x
        obtain ⟨yn, yv⟩ := y
        simp only at *
        by_cases hxy : (⟨xn, xv⟩ : Av) = ⟨yn, yv⟩
        · have Hnx := Lib.hid (hnx hxy)
          rw [decide_eq_true hxy] at hq
          simp only [Bool.not_true] at hq
          clear hnx hno hxy
          go_wp2_with fail
          go_region
          go_wp2_with fail
          go_roundw
          case rel => exact ⟨k + 1, by omega, by go_num, by first | exact Hb.out | exact Hb.out.drew, Hnx.out⟩
          case measure => simp [intOf]; omega
        · have Hno := Lib.hid (hno hxy)
          rw [decide_eq_false hxy] at hq
          simp only [Bool.not_false] at hq
          clear hnx hno hxy
          go_wp2_with fail
          go_region
          go_wp2_with fail
          go_ret
          exact ⟨ret_bool Hno.out.symm, by first | exact Hb.out | exact Hb.out.drew⟩
      · have hr := Heq.out (fun j ha hb => hall j ha hb (by omega))
        have Hr := Lib.hid hr; have Hb := Lib.hid hb
        clear hb hall hr
        obtain rfl : k = a.length := by omega
        go_wp2_with fail
        go_ret
        exact ⟨ret_bool Hr.out.symm, Hb.out⟩
end Go.Proofs.Ytbbompmpecblgaa.FSame
