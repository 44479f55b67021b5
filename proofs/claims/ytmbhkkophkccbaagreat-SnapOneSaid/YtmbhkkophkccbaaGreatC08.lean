import Derived.Deep.Cut
import Derived.Shelf.Strings.Count
import Derived.Shelf.Strings.Builder1
import Derived.Shelf.Strings.BuilderK
import Derived.Test.YtmbhkkophkccbaaGreatProg
import Derived.KernelRfl
import Derived.Lib.AppendStr
import Derived.Defers
import Derived.Laws.Pointers
import Derived.Laws.LoneSync
import Derived.RegionTactic
import Derived.RegionCalls
import Derived.ChangeAlike
import Derived.Tactics2
import Derived.Test.YtmbhkkophkccbaaGreatC07
import Derived.Test.YtmbhkkophkccbaaGreatC01
import Derived.Test.YtmbhkkophkccbaaGreatC03
import Derived.Test.YtmbhkkophkccbaaGreatC02
section
namespace Go.Proofs.YtmbhkkophkccbaaGreat.FSame
open Go Go.RowKit Go.Proofs.YtmbhkkophkccbaaGreat.Seq WS FS WordIt Mem Rd Word WordHas Shapes FFam FMay
set_option linter.unusedVariables false
set_option linter.unusedSimpArgs false

theorem list_ne_len {α : Type} [DecidableEq α] {a b : List α} (h : a.length ≠ b.length) : decide (a = b) = false := decide_eq_false (fun e => h (by rw [e]))
theorem list_ne_at {α : Type} [DecidableEq α] {a b : List α} {k : Nat} (ha : k < a.length) (hb : k < b.length) (h : a[k] ≠ b[k]) : decide (a = b) = false := decide_eq_false (fun e => by subst e; exact h rfl)
theorem list_eq_at {α : Type} [DecidableEq α] {a b : List α} (hl : a.length = b.length) (h : ∀ j (ha : j < a.length) (hb : j < b.length), a[j] = b[j]) : decide (a = b) = true := decide_eq_true (List.ext_getElem hl h)

set_option maxRecDepth 100000 in
theorem EqualInts_calls (w : World) (v1 v2 : Value) (a b : List Int) (h1 : RdL (intE .i64) 1 w.heap.size w v1 a) (h2 : RdL (intE .i64) 1 w.heap.size w v2 b) :
  Calls Tryz.prog 91 #[v1, v2] w fun e w' => e = .returned (.bool (decide (a = b))) ∧ Below w.heap.size w w' := by
 have HR1 := Lib.hid (fun w' hb => h1.below (intE_keeps _) (w' := w') hb (Nat.le_refl _))
 have HR2 := Lib.hid (fun w' hb => h2.below (intE_keeps _) (w' := w') hb (Nat.le_refl _))
 obtain ⟨A1, c1, rfl, l1, m1, _⟩ := h1.form
 obtain ⟨A2, c2, rfl, l2, m2, _⟩ := h2.form
 simp only [maxLen] at m1 m2
 clear h1 h2
 by_cases hl : a.length = b.length
 case neg =>
  have hr := list_ne_len hl
  have e1 : ((a.length : Int) == (b.length : Int)) = false := by rw [beq_eq_false_iff_ne]; omega
  have e2 : ((a.length : Int) != (b.length : Int)) = true := by rw [bne_iff_ne]; omega
  have Hr := Lib.hid hr; clear hr hl
  go_enter Tryz.func91, Tryz.ntmps91
  go_wp2_with fail
  go_ret
  exact ⟨ret_bool Hr.out.symm, Below.refl _ _⟩
 case pos =>
  have e1 : ((a.length : Int) == (b.length : Int)) = true := by rw [beq_iff_eq]; omega
  have e2 : ((a.length : Int) != (b.length : Int)) = false := by rw [hl]; simp
  have hne := fun k ha hb h => list_ne_at (a := a) (b := b) (k := k) ha hb h
  have heq := list_eq_at (a := a) (b := b) hl
  have Hne := Lib.hid hne; have Heq := Lib.hid heq
  clear hne heq
  go_enter Tryz.func91, Tryz.ntmps91
  go_wp2_with fail
  go_loopw [13] (fun i wr => ∃ k : Nat, k ≤ a.length ∧ i = .int .i64 k ∧ Below w.heap.size w wr ∧ ∀ j (ha : j < a.length) (hb : j < b.length), j < k → a[j] = b[j]) (fun i _ => a.length - (intOf i).toNat)
  case atStart => exact ⟨0, Nat.zero_le _, rfl, Below.refl _ _, fun j _ _ h => by omega⟩
  case round =>
   obtain ⟨k, hk, rfl, hb, hall⟩ := hrel
   by_cases hlt : k < a.length
   ·obtain ⟨b1, o1, he1, _, g1, _⟩ := intE_at (HR1.out _ hb) (i := k) hlt
    obtain ⟨b2, o2, he2, _, g2, _⟩ := intE_at (HR2.out _ hb) (i := k) (by omega)
    subst he1
    subst he2
    have hnx : a[k] = b[k]'(by omega) → ∀ j (ha : j < a.length) (hb : j < b.length), j < k + 1 → a[j] = b[j] := fun h j ha hb hj => by
     by_cases e : j = k
     ·subst e; exact h
     ·exact hall j ha hb (by omega)
    have hno := Hne.out k hlt (by omega)
    have Hb := Lib.hid hb
    clear hb hall
    generalize a[k] = x at *
    generalize b[k]'(by omega) = y at *
    by_cases hxy : x = y
    ·subst hxy
     have Hnx := Lib.hid (hnx rfl)
     have e3 : (x != x) = false := by simp
     clear hnx hno
     go_wp2_with fail
     go_region
     go_wp2_with fail
     go_roundw
     case rel => exact ⟨k + 1, by omega, by go_num, by first | exact Hb.out | exact Hb.out.drew, Hnx.out⟩
     case measure => simp [intOf]; omega
    ·have Hno := Lib.hid (hno hxy)
     have e3 : (x == y) = false := by rw [beq_eq_false_iff_ne]; exact hxy
     have e4 : (x != y) = true := by rw [bne_iff_ne]; exact hxy
     clear hnx hno hxy
     go_wp2_with fail
     go_region
     go_wp2_with fail
     go_ret
     exact ⟨ret_bool Hno.out.symm, by first | exact Hb.out | exact Hb.out.drew⟩
   ·have hr := Heq.out (fun j ha hb => hall j ha hb (by omega))
    have Hr := Lib.hid hr; have Hb := Lib.hid hb
    clear hb hall hr
    obtain rfl : k = a.length := by omega
    go_wp2_with fail
    go_ret
    exact ⟨ret_bool Hr.out.symm, Hb.out⟩
set_option maxRecDepth 100000 in
theorem RefInts_calls (w : World) (v1 v2 : Value) (a b : List Int) (h1 : RdL (intE .i64) 1 w.heap.size w v1 a) (h2 : RdL (intE .i64) 1 w.heap.size w v2 b) :
  Calls Tryz.prog 21 #[v1, v2] w fun e w' => e = .returned (.bool (decide (a = b))) ∧ Below w.heap.size w w' := by
 have HR1 := Lib.hid (fun w' hb => h1.below (intE_keeps _) (w' := w') hb (Nat.le_refl _))
 have HR2 := Lib.hid (fun w' hb => h2.below (intE_keeps _) (w' := w') hb (Nat.le_refl _))
 obtain ⟨A1, c1, rfl, l1, m1, _⟩ := h1.form
 obtain ⟨A2, c2, rfl, l2, m2, _⟩ := h2.form
 simp only [maxLen] at m1 m2
 clear h1 h2
 by_cases hl : a.length = b.length
 case neg =>
  have hr := list_ne_len hl
  have e1 : ((a.length : Int) == (b.length : Int)) = false := by rw [beq_eq_false_iff_ne]; omega
  have e2 : ((a.length : Int) != (b.length : Int)) = true := by rw [bne_iff_ne]; omega
  have Hr := Lib.hid hr; clear hr hl
  go_enter Tryz.func21, Tryz.ntmps21
  go_wp2_with fail
  go_ret
  exact ⟨ret_bool Hr.out.symm, Below.refl _ _⟩
 case pos =>
  have e1 : ((a.length : Int) == (b.length : Int)) = true := by rw [beq_iff_eq]; omega
  have e2 : ((a.length : Int) != (b.length : Int)) = false := by rw [hl]; simp
  have hne := fun k ha hb h => list_ne_at (a := a) (b := b) (k := k) ha hb h
  have heq := list_eq_at (a := a) (b := b) hl
  have Hne := Lib.hid hne; have Heq := Lib.hid heq
  clear hne heq
  go_enter Tryz.func21, Tryz.ntmps21
  go_wp2_with fail
  go_loopw [5] (fun i wr => ∃ k : Nat, k ≤ a.length ∧ i = .int .i64 k ∧ Below w.heap.size w wr ∧ ∀ j (ha : j < a.length) (hb : j < b.length), j < k → a[j] = b[j]) (fun i _ => a.length - (intOf i).toNat)
  case atStart => exact ⟨0, Nat.zero_le _, rfl, Below.refl _ _, fun j _ _ h => by omega⟩
  case round =>
   obtain ⟨k, hk, rfl, hb, hall⟩ := hrel
   by_cases hlt : k < a.length
   ·obtain ⟨b1, o1, he1, _, g1, _⟩ := intE_at (HR1.out _ hb) (i := k) hlt
    obtain ⟨b2, o2, he2, _, g2, _⟩ := intE_at (HR2.out _ hb) (i := k) (by omega)
    subst he1
    subst he2
    have hnx : a[k] = b[k]'(by omega) → ∀ j (ha : j < a.length) (hb : j < b.length), j < k + 1 → a[j] = b[j] := fun h j ha hb hj => by
     by_cases e : j = k
     ·subst e; exact h
     ·exact hall j ha hb (by omega)
    have hno := Hne.out k hlt (by omega)
    have Hb := Lib.hid hb
    clear hb hall
    generalize a[k] = x at *
    generalize b[k]'(by omega) = y at *
    by_cases hxy : x = y
    ·subst hxy
     have Hnx := Lib.hid (hnx rfl)
     have e3 : (x != x) = false := by simp
     clear hnx hno
     go_wp2_with fail
     go_region
     go_wp2_with fail
     go_roundw
     case rel => exact ⟨k + 1, by omega, by go_num, by first | exact Hb.out | exact Hb.out.drew, Hnx.out⟩
     case measure => simp [intOf]; omega
    ·have Hno := Lib.hid (hno hxy)
     have e3 : (x == y) = false := by rw [beq_eq_false_iff_ne]; exact hxy
     have e4 : (x != y) = true := by rw [bne_iff_ne]; exact hxy
     clear hnx hno hxy
     go_wp2_with fail
     go_region
     go_wp2_with fail
     go_ret
     exact ⟨ret_bool Hno.out.symm, by first | exact Hb.out | exact Hb.out.drew⟩
   ·have hr := Heq.out (fun j ha hb => hall j ha hb (by omega))
    have Hr := Lib.hid hr; have Hb := Lib.hid hb
    clear hb hall hr
    obtain rfl : k = a.length := by omega
    go_wp2_with fail
    go_ret
    exact ⟨ret_bool Hr.out.symm, Hb.out⟩
theorem str_beq (a b : ByteArray) : (a.toList == b.toList) = decide (a = b) := by
 rw [← beq_toListBytes, Bool.eq_iff_iff, Go.MapKept.bytes_beq, decide_eq_true_eq]
theorem str_inj (a b : ByteArray) : (a.toList = b.toList) = (a = b) := by
 have := str_beq a b
 by_cases h : a = b
 ·simp [h]
 ·rw [decide_eq_false h] at this
  have h2 : ¬ a.toList = b.toList := by simpa using this
  simp [h, h2]
theorem neq_attr (x y : Av) (w : World) : (binOp .neq 112 (.agg #[.string x.name, .string x.value]) (.agg #[.string y.name, .string y.value])).run Tryz.prog w = .ok (.bool (!decide (x = y))) w := by
 have u3 := Tryz.underlying9
 have a3 := Tryz.isAgg9
 have z3 := Tryz.sizeOf9
 have hS : Tryz.prog.underlying 112 = some (.struct (Tryz.prog.fieldsOf 112)) := by kernel_rfl
 have hp : Tryz.prog.stoodInHeld 112 = false := by kernel_rfl
 rw [run_neq_struct, show (10000 : Nat) = 9999 + 1 from rfl, run_equalIn_agg w 9999 112 _ _ hS hp]
 simp only [Program.fieldsOf, Tryz.underlying112]
 go_simp
 obtain ⟨xn, xv⟩ := x
 obtain ⟨yn, yv⟩ := y
 by_cases h1 : xn = yn <;> by_cases h2 : xv = yv <;> simp [h1, h2, str_inj]
theorem neq_rattr (x y : Av) (w : World) : (binOp .neq 111 (.agg #[.string x.name, .string x.value]) (.agg #[.string y.name, .string y.value])).run Tryz.prog w = .ok (.bool (!decide (x = y))) w := by
 have u3 := Tryz.underlying9
 have a3 := Tryz.isAgg9
 have z3 := Tryz.sizeOf9
 have hS : Tryz.prog.underlying 111 = some (.struct (Tryz.prog.fieldsOf 111)) := by kernel_rfl
 have hp : Tryz.prog.stoodInHeld 111 = false := by kernel_rfl
 rw [run_neq_struct, show (10000 : Nat) = 9999 + 1 from rfl, run_equalIn_agg w 9999 111 _ _ hS hp]
 simp only [Program.fieldsOf, Tryz.underlying111]
 go_simp
 obtain ⟨xn, xv⟩ := x
 obtain ⟨yn, yv⟩ := y
 by_cases h1 : xn = yn <;> by_cases h2 : xv = yv <;> simp [h1, h2, str_inj]
set_option maxRecDepth 100000 in
theorem EqualAttrs_calls (w : World) (v1 v2 : Value) (a b : List Av) (h1 : RdL attrE 2 w.heap.size w v1 a) (h2 : RdL attrE 2 w.heap.size w v2 b) :
  Calls Tryz.prog 106 #[v1, v2] w fun e w' => e = .returned (.bool (decide (a = b))) ∧ Below w.heap.size w w' := by
 have HR1 := Lib.hid (fun w' hb => h1.below attrE_keeps (w' := w') hb (Nat.le_refl _))
 have HR2 := Lib.hid (fun w' hb => h2.below attrE_keeps (w' := w') hb (Nat.le_refl _))
 obtain ⟨A1, c1, rfl, l1, m1, _⟩ := h1.form
 obtain ⟨A2, c2, rfl, l2, m2, _⟩ := h2.form
 simp only [maxLen] at m1 m2
 clear h1 h2
 by_cases hl : a.length = b.length
 case neg =>
  have hr := list_ne_len hl
  have e1 : ((a.length : Int) == (b.length : Int)) = false := by rw [beq_eq_false_iff_ne]; omega
  have e2 : ((a.length : Int) != (b.length : Int)) = true := by rw [bne_iff_ne]; omega
  have Hr := Lib.hid hr; clear hr hl
  go_enter Tryz.func106, Tryz.ntmps106
  go_wp2_with fail
  go_ret
  exact ⟨ret_bool Hr.out.symm, Below.refl _ _⟩
 case pos =>
  have e1 : ((a.length : Int) == (b.length : Int)) = true := by rw [beq_iff_eq]; omega
  have e2 : ((a.length : Int) != (b.length : Int)) = false := by rw [hl]; simp
  have hne := fun k ha hb h => list_ne_at (a := a) (b := b) (k := k) ha hb h
  have heq := list_eq_at (a := a) (b := b) hl
  have Hne := Lib.hid hne; have Heq := Lib.hid heq
  clear hne heq
  go_enter Tryz.func106, Tryz.ntmps106
  go_wp2_with fail
  go_loopw [13] (fun i wr => ∃ k : Nat, k ≤ a.length ∧ i = .int .i64 k ∧ Below w.heap.size w wr ∧ ∀ j (ha : j < a.length) (hb : j < b.length), j < k → a[j] = b[j]) (fun i _ => a.length - (intOf i).toNat)
  case atStart => exact ⟨0, Nat.zero_le _, rfl, Below.refl _ _, fun j _ _ h => by omega⟩
  case round =>
   obtain ⟨k, hk, rfl, hb, hall⟩ := hrel
   by_cases hlt : k < a.length
   ·obtain ⟨b1, o1, he1, _, g1, g1', _⟩ := FAttr.attr_at (HR1.out _ hb) (i := k) hlt
    obtain ⟨b2, o2, he2, _, g2, g2', _⟩ := FAttr.attr_at (HR2.out _ hb) (i := k) (by omega)
    subst he1
    subst he2
    have hnx : a[k] = b[k]'(by omega) → ∀ j (ha : j < a.length) (hb : j < b.length), j < k + 1 → a[j] = b[j] := fun h j ha hb hj => by
     by_cases e : j = k
     ·subst e; exact h
     ·exact hall j ha hb (by omega)
    have hno := Hne.out k hlt (by omega)
    have Hb := Lib.hid hb
    clear hb hall
    generalize a[k] = x at *
    generalize b[k]'(by omega) = y at *
    have hq := neq_attr x y
    have hgd : Tryz.prog.eqGuardType Tryz.prog.depth 112 = false := by kernel_rfl
    obtain ⟨xn, xv⟩ := x
    obtain ⟨yn, yv⟩ := y
    simp only at *
    by_cases hxy : (⟨xn, xv⟩ : Av) = ⟨yn, yv⟩
    ·have Hnx := Lib.hid (hnx hxy)
     rw [decide_eq_true hxy] at hq
     simp only [Bool.not_true] at hq
     clear hnx hno hxy
     go_wp2_with fail
     go_region
     go_wp2_with fail
     go_roundw
     case rel => exact ⟨k + 1, by omega, by go_num, by first | exact Hb.out | exact Hb.out.drew, Hnx.out⟩
     case measure => simp [intOf]; omega
    ·have Hno := Lib.hid (hno hxy)
     rw [decide_eq_false hxy] at hq
     simp only [Bool.not_false] at hq
     clear hnx hno hxy
     go_wp2_with fail
     go_region
     go_wp2_with fail
     go_ret
     exact ⟨ret_bool Hno.out.symm, by first | exact Hb.out | exact Hb.out.drew⟩
   ·have hr := Heq.out (fun j ha hb => hall j ha hb (by omega))
    have Hr := Lib.hid hr; have Hb := Lib.hid hb
    clear hb hall hr
    obtain rfl : k = a.length := by omega
    go_wp2_with fail
    go_ret
    exact ⟨ret_bool Hr.out.symm, Hb.out⟩
end Go.Proofs.YtmbhkkophkccbaaGreat.FSame
end
section
namespace Go.Proofs.YtmbhkkophkccbaaGreat.OpMay
open Go Go.RowKit Go.Proofs.YtmbhkkophkccbaaGreat.Seq WS FS Mem Rd
set_option linter.unusedVariables false
set_option linter.unusedSimpArgs false

abbrev opRow (o : Opn) : Array Value := #[.int .i64 o.kind, .int .i64 o.id, .int .i64 o.to, .int .i64 o.at_, .string o.name, .string o.text]
theorem eql_op (x y : Opn) (w : World) : (binOp .eql 104 (.agg #[.int .i64 x.kind, .int .i64 x.id, .int .i64 x.to, .int .i64 x.at_, .string x.name, .string x.text]) (.agg #[.int .i64 y.kind, .int .i64 y.id, .int .i64 y.to, .int .i64 y.at_, .string y.name, .string y.text])).run Tryz.prog w = .ok (.bool (decide (x = y))) w := by
 have u3 := Tryz.underlying9
 have a3 := Tryz.isAgg9
 have z3 := Tryz.sizeOf9
 have u4 := Tryz.underlying3
 have a4 := Tryz.isAgg3
 have z4 := Tryz.sizeOf3
 have hS : Tryz.prog.underlying 104 = some (.struct (Tryz.prog.fieldsOf 104)) := by kernel_rfl
 have hp : Tryz.prog.stoodInHeld 104 = false := by kernel_rfl
 rw [run_eql_struct, show (10000 : Nat) = 9999 + 1 from rfl, run_equalIn_agg w 9999 104 _ _ hS hp]
 simp only [Program.fieldsOf, Tryz.underlying104]
 go_simp
 obtain ⟨x1, x2, x3, x4, x5, x6⟩ := x
 obtain ⟨y1, y2, y3, y4, y5, y6⟩ := y
 by_cases h1 : x1 = y1 <;> by_cases h2 : x2 = y2 <;> by_cases h3 : x3 = y3 <;> by_cases h4 : x4 = y4 <;> by_cases h5 : x5 = y5 <;> by_cases h6 : x6 = y6 <;> simp [h1, h2, h3, h4, h5, h6, FSame.str_inj]
theorem wpList_build {P : Program} {ops : Array Oper} {rest : List Oper} {o : Oper} {a : Act} {w : World} {Q : Exit → Act → World → Prop} (hg : o.guard = none) (t : TypeId) (ps : Array (Nat × Operand)) (ho : o.op = .build t ps) (vs : Array (Nat × Value)) (hv : ps.map (fun x => (x.1, a.eval x.2)) = vs) (v : Value) (hr : (Instr.build t vs).run P w = .ok v w)
  (h : wpList P ops Q rest (a.put o.dst v) w) : wpList P ops Q (o :: rest) a w := by
 refine wpList_plain hg fun K hK => ?_
 unfold Oper.wp
 simp only [execOp, ho, hv, Sem.run_bind, hr, Result.andThen_ok, Sem.run_pure]
 exact hK _ _ h
def shapesA : Array Value := #[.string ⟨#[]⟩, .int .i64 0, .bool false, .bool false,
 .string ⟨#[101, 108, 101, 109, 101, 110, 116]⟩, .int .i64 0, .bool true, .bool false, .string ⟨#[116, 101, 120, 116]⟩, .int .i64 0, .bool false, .bool true, .string ⟨#[99, 111, 109, 109, 101, 110, 116]⟩, .int .i64 0, .bool false, .bool true,
 .string ⟨#[105, 110, 115, 101, 114, 116]⟩, .int .i64 3, .bool false, .bool false, .string ⟨#[114, 101, 109, 111, 118, 101]⟩, .int .i64 1, .bool false, .bool false, .string ⟨#[115, 101, 116]⟩, .int .i64 1, .bool true, .bool true,
 .string ⟨#[117, 110, 115, 101, 116]⟩, .int .i64 1, .bool true, .bool false, .string ⟨#[99, 104, 97, 110, 103, 101]⟩, .int .i64 1, .bool false, .bool true]
def zerosA : Array Value := (Array.replicate 9 #[Value.string ⟨#[]⟩, .int .i64 0, .bool false, .bool false]).flatten
theorem zero_shapes (w : World) : (zeroValue 273).run Tryz.prog w = .ok (.agg zerosA) w := by kernel_rfl
def partsA : Array (Nat × Value) := #[(1, .agg #[.string ⟨#[101, 108, 101, 109, 101, 110, 116]⟩, .int .i64 0, .bool true, .bool false]), (2, .agg #[.string ⟨#[116, 101, 120, 116]⟩, .int .i64 0, .bool false, .bool true]), (3, .agg #[.string ⟨#[99, 111, 109, 109, 101, 110, 116]⟩, .int .i64 0, .bool false, .bool true]),
  (4, .agg #[.string ⟨#[105, 110, 115, 101, 114, 116]⟩, .int .i64 3, .bool false, .bool false]), (5, .agg #[.string ⟨#[114, 101, 109, 111, 118, 101]⟩, .int .i64 1, .bool false, .bool false]), (6, .agg #[.string ⟨#[115, 101, 116]⟩, .int .i64 1, .bool true, .bool true]),
  (7, .agg #[.string ⟨#[117, 110, 115, 101, 116]⟩, .int .i64 1, .bool true, .bool false]), (8, .agg #[.string ⟨#[99, 104, 97, 110, 103, 101]⟩, .int .i64 1, .bool false, .bool true])]
theorem build_shapes (w : World) : (Instr.build 273 partsA).run Tryz.prog w = .ok (.agg shapesA) w := by kernel_rfl
theorem store_shapes (W : World) (b : Nat) (hb : b = W.heap.size) : (storeCells ⟨b, 0, none⟩ shapesA.toList 0).run Tryz.prog (W.alloc (.cells zerosA 273)) = .ok () (W.alloc (.cells shapesA 273)) := by
 subst hb
 exact run_storeCells_new (P := Tryz.prog) W _ _ _ (by kernel_rfl) (by kernel_rfl) (by kernel_rfl)
def ShapedPost (k : Int) (w : World) (e : Ending) (w' : World) : Prop := (∃ s : ByteArray, e = .returned (.tuple #[.agg #[.string s, .int .i64 (shapeN k), .bool (shapeA k), .bool (shapeT k)], .bool true])) ∧ Below w.heap.size w w'
def UnshapedPost (w : World) (e : Ending) (w' : World) : Prop := e = .returned (.tuple #[.agg #[.string ⟨#[]⟩, .int .i64 0, .bool false, .bool false], .bool false]) ∧ Below w.heap.size w w'
set_option maxRecDepth 100000 in
set_option maxHeartbeats 4000000 in
theorem unshaped_calls (k : Int) (hk : ¬ (1 ≤ k ∧ k ≤ 8)) (w : World) : Calls Tryz.prog 154 #[.int .i64 k] w (UnshapedPost w) := by
 by_cases h1 : k < 1
 ·go_enter Tryz.func154, Tryz.ntmps154
  go_upto_region 1 with (fail)
  go_step
  iterate 24 go_step
  refine wpList_build rfl 273 _ rfl partsA (by simp [Act.eval, partsA]) (.agg shapesA) (build_shapes _) ?_
  have hz := zero_shapes
  have hst := store_shapes (w.alloc (.cells #[.string ⟨#[]⟩, .int .i64 0, .bool false, .bool false] 230)) (w.heap.size + 1) (by simp)
  go_wp2_with fail
  refine bodyPost_ret (v := .tuple #[.agg #[.string ⟨#[]⟩, .int .i64 0, .bool false, .bool false], .bool false]) (by simp [results, Tryz.results154, go_sem]) rfl ⟨rfl, ?_⟩
  exact ((Below.refl _ _).alloc (Nat.le_refl _) _).alloc (by simp) _
 ·have h8 : 8 < k := by omega
  go_enter Tryz.func154, Tryz.ntmps154
  go_upto_region 1 with (fail)
  go_step
  iterate 24 go_step
  refine wpList_build rfl 273 _ rfl partsA (by simp [Act.eval, partsA]) (.agg shapesA) (build_shapes _) ?_
  have hz := zero_shapes
  have hst := store_shapes (w.alloc (.cells #[.string ⟨#[]⟩, .int .i64 0, .bool false, .bool false] 230)) (w.heap.size + 1) (by simp)
  go_wp2_with fail
  refine bodyPost_ret (v := .tuple #[.agg #[.string ⟨#[]⟩, .int .i64 0, .bool false, .bool false], .bool false]) (by simp [results, Tryz.results154, go_sem]) rfl ⟨rfl, ?_⟩
  exact ((Below.refl _ _).alloc (Nat.le_refl _) _).alloc (by simp) _
def wordK (k : Nat) : ByteArray := match shapesA[k * 4]? with | some (.string s) => s | _ => ⟨#[]⟩
theorem shapes_at : ∀ k : Fin 8, shapesA[(k.val + 1) * 4]? = some (.string (wordK (k.val + 1))) ∧ shapesA[(k.val + 1) * 4 + 1]? = some (.int .i64 (shapeN ((k.val + 1 : Nat) : Int))) ∧ shapesA[(k.val + 1) * 4 + 2]? = some (.bool (shapeA ((k.val + 1 : Nat) : Int))) ∧ shapesA[(k.val + 1) * 4 + 3]? = some (.bool (shapeT ((k.val + 1 : Nat) : Int)))
 | ⟨0, _⟩ => ⟨rfl, rfl, rfl, rfl⟩
 | ⟨1, _⟩ => ⟨rfl, rfl, rfl, rfl⟩
 | ⟨2, _⟩ => ⟨rfl, rfl, rfl, rfl⟩
 | ⟨3, _⟩ => ⟨rfl, rfl, rfl, rfl⟩
 | ⟨4, _⟩ => ⟨rfl, rfl, rfl, rfl⟩
 | ⟨5, _⟩ => ⟨rfl, rfl, rfl, rfl⟩
 | ⟨6, _⟩ => ⟨rfl, rfl, rfl, rfl⟩
 | ⟨7, _⟩ => ⟨rfl, rfl, rfl, rfl⟩
set_option maxRecDepth 100000 in
set_option maxHeartbeats 4000000 in
theorem shaped_calls (k : Nat) (h1 : 1 ≤ k) (h8 : k ≤ 8) (w : World) : Calls Tryz.prog 154 #[.int .i64 k] w (ShapedPost k w) := by
 obtain ⟨s0, s1, s2, s3⟩ := shapes_at ⟨k - 1, by omega⟩
 simp only [show k - 1 + 1 = k by omega] at s0 s1 s2 s3
 have d1 : decide ((k : Int) < 1) = false := by simp; omega
 have d2 : decide ((8 : Int) < (k : Int)) = false := by simp; omega
 have hk0 : (0 : Int) ≤ (k : Int) := by omega
 have hk9 : (k : Int) < 9 := by omega
 generalize hN : shapeN (k : Int) = N at *
 generalize hA : shapeA (k : Int) = A at *
 generalize hT : shapeT (k : Int) = T at *
 generalize wordK k = W at *
 have HN := Lib.hid hN; have HA := Lib.hid hA; have HT := Lib.hid hT
 obtain ⟨w1, hw1⟩ : ∃ w1, w.alloc (.cells #[.string ⟨#[]⟩, .int .i64 0, .bool false, .bool false] 230) = w1 := ⟨_, rfl⟩
 obtain ⟨w2, hw2⟩ : ∃ w2, w1.alloc (.cells shapesA 273) = w2 := ⟨_, rfl⟩
 have hrow : w2.heap[w.heap.size + 1]? = some (.cells shapesA 273 (0, 0)) := by rw [← hw2, ← hw1]; have := World.alloc_heap_new (w.alloc (.cells #[.string ⟨#[]⟩, .int .i64 0, .bool false, .bool false] 230)) (.cells shapesA 273); rwa [World.size_alloc] at this
 have q0 : w2.cell? ⟨w.heap.size + 1, k * 4, none⟩ = some (.string W) := (cell_of_row _ _ _ _ _ _ hrow).trans s0
 have q1 : w2.cell? ⟨w.heap.size + 1, k * 4 + 1, none⟩ = some (.int .i64 N) := (cell_of_row _ _ _ _ _ _ hrow).trans s1
 have q2 : w2.cell? ⟨w.heap.size + 1, k * 4 + 2, none⟩ = some (.bool A) := (cell_of_row _ _ _ _ _ _ hrow).trans s2
 have q3 : w2.cell? ⟨w.heap.size + 1, k * 4 + 3, none⟩ = some (.bool T) := (cell_of_row _ _ _ _ _ _ hrow).trans s3
 have hrow0 : w2.heap[w.heap.size]? = some (.cells #[.string ⟨#[]⟩, .int .i64 0, .bool false, .bool false] 230 (0, 0)) := by rw [← hw2, ← hw1]; exact heap_old (World.alloc_heap_new w _)
 have z0 : w2.cell? ⟨w.heap.size, 0, none⟩ = some (.string ⟨#[]⟩) := (cell_of_row _ _ _ _ _ _ hrow0).trans rfl
 have z1 : w2.cell? ⟨w.heap.size, 1, none⟩ = some (.int .i64 0) := (cell_of_row _ _ _ _ _ _ hrow0).trans rfl
 have z2 : w2.cell? ⟨w.heap.size, 2, none⟩ = some (.bool false) := (cell_of_row _ _ _ _ _ _ hrow0).trans rfl
 have z3 : w2.cell? ⟨w.heap.size, 3, none⟩ = some (.bool false) := (cell_of_row _ _ _ _ _ _ hrow0).trans rfl
 have zf : ∀ j, w2.frozen? ⟨w.heap.size, j, none⟩ = false := free_of hrow0
 have hb2 : Below w.heap.size w w2 := by rw [← hw2, ← hw1]; exact ((Below.refl _ _).alloc (Nat.le_refl _) _).alloc (by simp) _
 have Hb2 := Lib.hid hb2
 have Hw1 := Lib.hid hw1; have Hw2 := Lib.hid hw2
 clear hN hA hT s0 s1 s2 s3 hw1 hw2 hrow hrow0 hb2
 go_enter Tryz.func154, Tryz.ntmps154
 go_upto_region 1 with (fail)
 go_step
 iterate 24 go_step
 refine wpList_build rfl 273 _ rfl partsA (by simp [Act.eval, partsA]) (.agg shapesA) (build_shapes _) ?_
 have hz := zero_shapes
 have hst := store_shapes (w.alloc (.cells #[.string ⟨#[]⟩, .int .i64 0, .bool false, .bool false] 230)) (w.heap.size + 1) (by simp)
 go_upto_region 2 with (fail)
 rw [Hw1.out, Hw2.out]
 clear hst
 go_wp2_with fail
 refine bodyPost_ret (v := .tuple #[.agg #[.string W, .int .i64 N, .bool A, .bool T], .bool true]) (by simp [results, Tryz.results154, go_sem, z0, z1, z2, z3]) rfl ⟨⟨W, by rw [HN.out, HA.out, HT.out]⟩, ?_⟩
 exact (((Hb2.out.setCell (Nat.le_refl _) _).setCell (Nat.le_refl _) _).setCell (Nat.le_refl _) _).setCell (Nat.le_refl _) _
end Go.Proofs.YtmbhkkophkccbaaGreat.OpMay
end
section
namespace Go.Proofs.YtmbhkkophkccbaaGreat.ShelfB
open Go.Shelf Go.Proofs
def ren : Go.Shelf.Ren := ⟨fun | 166 => 136 | 240 => 199 | 276 => 225 | 169 => 137 | n => n,
 fun | 70 => 207 | 9 => 9 | 0 => 0 | 72 => 210 | 37 => 208 | 127 => 262 | 3 => 3 | 5 => 5 | 4 => 4 | 20 => 20 | 75 => 212 | 164 => 283 | 80 => 215 | n => n, fun | n => n⟩
theorem lays166 : Go.Proofs.Lays.n166 Tryz.prog ren := {
 mixed := by kernel_rfl
 f166 := Tryz.func136.trans (congrArg some (by kernel_rfl))
 f240 := Tryz.func199.trans (congrArg some (by kernel_rfl))
 f276 := Tryz.func225.trans (congrArg some (by kernel_rfl))
 t0 := Tryz.underlying0
 a0 := Tryz.isAgg0
 z0 := Tryz.sizeOf0
 v0 := Tryz.zeroValue0
 t3 := Tryz.underlying3
 a3 := Tryz.isAgg3
 z3 := Tryz.sizeOf3
 v3 := Tryz.zeroValue3
 t4 := Tryz.underlying4
 a4 := Tryz.isAgg4
 z4 := Tryz.sizeOf4
 v4 := Tryz.zeroValue4
 t9 := Tryz.underlying9
 a9 := Tryz.isAgg9
 z9 := Tryz.sizeOf9
 v9 := Tryz.zeroValue9
 t20 := Tryz.underlying20
 a20 := Tryz.isAgg20
 z20 := Tryz.sizeOf20
 v20 := Tryz.zeroValue20
 t37 := Tryz.underlying208
 a37 := Tryz.isAgg208
 z37 := Tryz.sizeOf208
 v37 := Tryz.zeroValue208
 t70 := Tryz.underlying207
 a70 := Tryz.isAgg207
 z70 := Tryz.sizeOf207
 v70 := Tryz.zeroValue207
 t72 := Tryz.underlying210
 a72 := Tryz.isAgg210
 z72 := Tryz.sizeOf210
 v72 := Tryz.zeroValue210
 t75 := Tryz.underlying212
 a75 := Tryz.isAgg212
 z75 := Tryz.sizeOf212
 v75 := Tryz.zeroValue212
 t164 := Tryz.underlying283
 a164 := Tryz.isAgg283
 z164 := Tryz.sizeOf283
 v164 := Tryz.zeroValue283 }
theorem lays240 : Go.Proofs.Lays.n240 Tryz.prog ren := {
 mixed := by kernel_rfl
 f240 := Tryz.func199.trans (congrArg some (by kernel_rfl))
 f276 := Tryz.func225.trans (congrArg some (by kernel_rfl))
 t0 := Tryz.underlying0
 a0 := Tryz.isAgg0
 z0 := Tryz.sizeOf0
 v0 := Tryz.zeroValue0
 t4 := Tryz.underlying4
 a4 := Tryz.isAgg4
 z4 := Tryz.sizeOf4
 v4 := Tryz.zeroValue4
 t9 := Tryz.underlying9
 a9 := Tryz.isAgg9
 z9 := Tryz.sizeOf9
 v9 := Tryz.zeroValue9
 t20 := Tryz.underlying20
 a20 := Tryz.isAgg20
 z20 := Tryz.sizeOf20
 v20 := Tryz.zeroValue20
 t70 := Tryz.underlying207
 a70 := Tryz.isAgg207
 z70 := Tryz.sizeOf207
 v70 := Tryz.zeroValue207
 t72 := Tryz.underlying210
 a72 := Tryz.isAgg210
 z72 := Tryz.sizeOf210
 v72 := Tryz.zeroValue210
 t164 := Tryz.underlying283
 a164 := Tryz.isAgg283
 z164 := Tryz.sizeOf283
 v164 := Tryz.zeroValue283 }
theorem lays169 : Go.Proofs.Lays.n169 Tryz.prog ren := {
 mixed := by kernel_rfl
 f169 := Tryz.func137.trans (congrArg some (by kernel_rfl))
 t0 := Tryz.underlying0
 a0 := Tryz.isAgg0
 z0 := Tryz.sizeOf0
 v0 := Tryz.zeroValue0
 t3 := Tryz.underlying3
 a3 := Tryz.isAgg3
 z3 := Tryz.sizeOf3
 v3 := Tryz.zeroValue3
 t9 := Tryz.underlying9
 a9 := Tryz.isAgg9
 z9 := Tryz.sizeOf9
 v9 := Tryz.zeroValue9
 t37 := Tryz.underlying208
 a37 := Tryz.isAgg208
 z37 := Tryz.sizeOf208
 v37 := Tryz.zeroValue208
 t70 := Tryz.underlying207
 a70 := Tryz.isAgg207
 z70 := Tryz.sizeOf207
 v70 := Tryz.zeroValue207
 t72 := Tryz.underlying210
 a72 := Tryz.isAgg210
 z72 := Tryz.sizeOf210
 v72 := Tryz.zeroValue210
 t127 := Tryz.underlying262
 a127 := Tryz.isAgg262
 z127 := Tryz.sizeOf262
 v127 := Tryz.zeroValue262 }
theorem extra : Builder.Extra Tryz.prog ren where
 sizeBuilder := by kernel_rfl
 liesBuilder := by kernel_rfl
 t5 := Tryz.underlying5
 a5 := Tryz.isAgg5
 z5 := Tryz.sizeOf5
 v5 := Tryz.zeroValue5
 infoByte := by kernel_rfl
 cellsByte := by kernel_rfl
 sizeByte := by kernel_rfl
 neB5 := by decide
open Go Go.RowKit in
theorem copyCheck_used (b : Nat) (w : World) (h0 : w.cell? ⟨b, 0, none⟩ = some (.pointer (some ⟨b, 0, none⟩))) : Calls Tryz.prog 199 #[.pointer (some ⟨b, 0, none⟩)] w fun e w' => e = .returned (.tuple #[]) ∧ w' = w :=
 Any.Builder_copyCheck_used lays240 extra.toX72 b w h0
open Go Go.RowKit in
theorem copyCheck_fresh (b : Nat) (w : World) (h0 : w.cell? ⟨b, 0, none⟩ = some (.pointer none)) (hsh : w.shape? b = some (210, 2)) (hfz : w.frozen? ⟨b, 0, none⟩ = false) :
  Calls Tryz.prog 199 #[.pointer (some ⟨b, 0, none⟩)] w fun e w' => e = .returned (.tuple #[]) ∧ w' = w.setCell ⟨b, 0, none⟩ (.pointer (some ⟨b, 0, none⟩)) :=
 Any.Builder_copyCheck_fresh lays240 extra.toX72 b w h0 hsh hfz
open Go Go.RowKit in
theorem String_any (B b : Nat) (l : List UInt8) (w : World) (h : Lib.IsBuilder 210 5 B b (Lib.byteCells l) w) (hBw : B ≤ w.heap.size) :
  Calls Tryz.prog 137 #[.pointer (some ⟨b, 0, none⟩)] w fun e w' => e = .returned (.string ⟨l.toArray⟩) ∧ Below B w w' := Any.Builder_String_any lays169 extra B b l w h hBw
end Go.Proofs.YtmbhkkophkccbaaGreat.ShelfB
end
section
namespace Go.Proofs.YtmbhkkophkccbaaGreat.Build
open Go Go.RowKit Go.Proofs.YtmbhkkophkccbaaGreat.Seq Mem
set_option linter.unusedVariables false
set_option linter.unusedSimpArgs false

theorem append_string_at {P : Program} (w : World) (base : Nat) (t u ty e : TypeId) (i : TypeInfo) (ht : P.underlying t = some (.slice e)) (hu : P.underlying u = some .string) (hi : P.info? e = some i) (hz : i.zero = some (.int .u8 0))
  (hsize : i.size = 1) (hby : i.bytes = 1) (v : Value) (n : Nat) (xs : List Value) (hown : w.ownsRow base e 1 v n xs) (s : ByteArray)
  (h63 : n + s.size ≤ maxLen) (hbytes : n + s.size ≤ 140737488355328) (hbase : base ≤ w.heap.size) :
  ∃ v' w', (Builtin.append_ #[t, u] ty #[v, .string s]).run P w = .ok v' w' ∧ w'.ownsRow base e 1 v' (n + s.size) (xs ++ Lib.strCells s) ∧ w.grownBy w' v.ownBlock ∧
   (v'.ownBlock = v.ownBlock ∨ v'.ownBlock = some w.heap.size) := by
 obtain ⟨v', w', hr, h1, h2, h3⟩ := Lib.run_append_own_string (P := P) w base t u ty e i ht hu hi hz hsize hby v n xs hown s h63 hbytes hbase
 refine ⟨v', w', hr, h1, h2, ?_⟩
 have hsmall : n + s.size ≤ 9223372036854775807 := by simp only [maxLen] at h63; omega
 have hxl : xs.length = n := by simpa using hown.1
 rcases hown.2 with ⟨rfl, rfl⟩ | ⟨g, cap, cur, rfl, hbg, hg, hnc, hcm, hcs, htake⟩
 ·by_cases hm : s.size = 0
  ·left
   rw [h3.2 ⟨rfl, hm⟩]
  ·right
   have hr2 := run_append_nil_string (P := P) w t u ty e i (.int .u8 0) ht hu hi hz s (by omega) (by omega) (by rw [hby]; omega)
   rw [hr] at hr2
   injection hr2 with hv _
   rw [hv]; rfl
 ·by_cases hroom : n + s.size ≤ cap
  ·left
   have hcs' : cur.size = cap := by simpa using hcs
   have hr2 := Lib.run_append_room_string (P := P) w t u ty e i ht hu hi hsize g n cap cur hg s hroom (by omega)
   rw [hr] at hr2
   injection hr2 with hv _
   rw [hv]; rfl
  ·right
   have holds : ∀ j u, xs[j]? = some u → w.cell? ((⟨g, 0, none⟩ : Addr).add j) = some u := hown.cells (g := g) rfl
   have hr2 := Lib.run_append_grow_string (P := P) w t u ty e i (.int .u8 0) ht hu hi hz ⟨g, 0, none⟩ n cap xs (by rw [hsize]; simpa using hxl) holds s (by omega) (by omega) (by rw [hby]; exact growslice_fits (by omega) (by omega))
   rw [hr] at hr2
   injection hr2 with hv _
   rw [hv]; rfl
theorem pl_append_str {P : Program} {ops : Array Oper} {rest : List Oper} {o : Oper} {a : Act} {Q : Exit → Act → World → Prop} (w : World) (hgd : o.guard = none) (sl x : Operand) (t u : TypeId)
  (ho : o.op = .call { callee := .builtin .append, args := #[sl, x], argTypes := #[t, u] })
  (base : Nat) (e : TypeId) (ht : P.underlying t = some (.slice e)) (hu : P.underlying u = some .string) (hinfo : (P.info? e).map (fun i => (i.zero, i.size, i.bytes)) = some (some (.int .u8 0), 1, 1))
  (v : Value) (xs : List Value) (hs : a.eval sl = v) (s : ByteArray) (hx : a.eval x = .string s) (hown : w.ownsRow base e 1 v xs.length xs)
  (h63 : xs.length + s.size ≤ maxLen) (hbytes : xs.length + s.size ≤ 140737488355328) (hbase : base ≤ w.heap.size)
  (h : ∀ v' w', w'.ownsRow base e 1 v' (xs.length + s.size) (xs ++ Lib.strCells s) → w.grownBy w' v.ownBlock → (v'.ownBlock = v.ownBlock ∨ v'.ownBlock = some w.heap.size) → wpList P ops Q rest (a.put o.dst v') w') : wpList P ops Q (o :: rest) a w := by
 obtain ⟨i0, hi, hzz⟩ := Option.map_eq_some_iff.1 hinfo
 simp only [Prod.mk.injEq] at hzz
 obtain ⟨hz0, hz1, hz2⟩ := hzz
 obtain ⟨v', w', hrun, r1, r2, r3⟩ := append_string_at (P := P) w base t u o.type e i0 ht hu hi hz0 hz1 hz2 v xs.length xs hown s h63 hbytes hbase
 refine wpList_plain hgd fun K hK => ?_
 unfold Oper.wp execOp
 simp only [ho, resolve, invoke, builtin, Sem.run_bind, Sem.run_pure, Result.andThen_ok, List.map_toArray, List.map_cons, List.map_nil, hs, hx, hrun]
 exact hK _ _ (h v' w' r1 r2 r3)

structure IsB (B b : Nat) (l : List UInt8) (v : Value) (w : World) : Prop where
 cells : w.heap[b]? = some (.cells #[.pointer none, v] 210 (0, 0)) ∨ w.heap[b]? = some (.cells #[.pointer (some ⟨b, 0, none⟩), v] 210 (0, 0))
 row : w.ownsRow B 5 1 v l.length (Lib.byteCells l)
 ne : v.ownBlock ≠ some b
 le : B ≤ b
theorem IsB.keep {B b : Nat} {l : List UInt8} {v : Value} {w w' : World} (h : IsB B b l v w) (hb : w'.heap[b]? = w.heap[b]?) (hr : ∀ g, v.ownBlock = some g → w'.heap[g]? = w.heap[g]?) : IsB B b l v w' :=
 ⟨h.cells.elim (fun x => .inl (hb.trans x)) (fun x => .inr (hb.trans x)), own_keep h.row hr, h.ne, h.le⟩
theorem IsB.lt {B b : Nat} {l : List UInt8} {v : Value} {w : World} (h : IsB B b l v w) : b < w.heap.size := h.cells.elim lt_heap lt_heap
theorem IsB.lib {B b : Nat} {l : List UInt8} {v : Value} {w : World} (h : IsB B b l v w) : Lib.IsBuilder 210 5 B b (Lib.byteCells l) w := by
 rcases h.cells with hc | hc
 ·exact .inl ⟨h.le, v, hc, by rw [Lib.byteCells_length]; exact h.row, h.ne⟩
 ·exact .inr ⟨h.le, v, hc, by rw [Lib.byteCells_length]; exact h.row, h.ne⟩
theorem own_form {w : World} {base : Nat} {e : TypeId} {sz : Nat} {v : Value} {n : Nat} {xs : List Value} (h : w.ownsRow base e sz v n xs) : ∃ A n c, v = .slice A n c := by
 rcases h.2 with ⟨rfl, _⟩ | ⟨g, cap, cur, rfl, _⟩
 ·exact ⟨_, _, _, rfl⟩
 ·exact ⟨_, _, _, rfl⟩
theorem info_u8 : (Tryz.prog.info? 5).map (fun i => (i.zero, i.size, i.bytes)) = some (some (.int .u8 0), 1, 1) := by kernel_rfl
theorem copyCheck_calls (B b : Nat) (l : List UInt8) (v : Value) (w : World) (h : IsB B b l v w) :
  Calls Tryz.prog 199 #[.pointer (some ⟨b, 0, none⟩)] w fun e w' => e = .returned (.tuple #[]) ∧ w'.heap[b]? = some (.cells #[.pointer (some ⟨b, 0, none⟩), v] 210 (0, 0)) ∧ Off (fun k => k = b) w w' := by
 rcases h.cells with hc | hc
 ·refine (ShelfB.copyCheck_fresh b w (by rw [cell_of_row _ _ _ _ _ _ hc]; rfl) (by simp [World.shape?, hc]) (by simp [World.frozen?, hc])).mono ?_
  rintro e w' ⟨rfl, rfl⟩
  refine ⟨rfl, ?_, Off.setCell _ _ _ rfl⟩
  simp only [World.setCell, Array.getElem?_modify, hc]
  simp
 ·refine (ShelfB.copyCheck_used b w (by rw [cell_of_row _ _ _ _ _ _ hc]; rfl)).mono ?_
  rintro e w' ⟨rfl, rfl⟩
  exact ⟨rfl, hc, Off.refl _ _⟩
theorem set1 {w : World} {b : Nat} {x u v : Value} {T : TypeId} (h : w.heap[b]? = some (.cells #[x, u] T (0, 0))) : (w.setCell ⟨b, 1, none⟩ v).heap[b]? = some (.cells #[x, v] T (0, 0)) := by
 simp only [World.setCell, Array.getElem?_modify, h]
 simp
theorem heap_set_other {w : World} {b g i : Nat} {v : Value} (h : g ≠ b) : (w.setCell ⟨b, i, none⟩ v).heap[g]? = w.heap[g]? := Below.heap_setCell _ _ _ _ h
def WPost (B b : Nat) (l : List UInt8) (s : ByteArray) (v : Value) (w : World) (e : Ending) (w' : World) : Prop :=
 e = .returned (.tuple #[.int .i64 s.size, .nilIface]) ∧ ∃ v', IsB B b (l ++ s.data.toList) v' w' ∧ Off (fun k => k = b ∨ v.ownBlock = some k) w w' ∧ (v'.ownBlock = v.ownBlock ∨ ∃ g, v'.ownBlock = some g ∧ w.heap.size ≤ g)
theorem WriteString_end {B b : Nat} {l : List UInt8} {s : ByteArray} {v v3 : Value} {w w2 w3 : World} (H : IsB B b l v w) (ho : Off (fun k => k = b) w w2) (hb : w3.heap[b]? = some (.cells #[.pointer (some ⟨b, 0, none⟩), v] 210 (0, 0)))
  (hown : w3.ownsRow B 5 1 v3 ((Lib.byteCells l).length + s.size) (Lib.byteCells l ++ Lib.strCells s)) (hg : w2.grownBy w3 v.ownBlock) (hat : v3.ownBlock = v.ownBlock ∨ v3.ownBlock = some w2.heap.size) :
  WPost B b l s v w (.returned (.tuple #[.int .i64 s.size, .nilIface])) (w3.setCell ⟨b, 1, none⟩ v3) := by
 have hne : v3.ownBlock ≠ some b := by
  rcases hat with h | h
  ·rw [h]; exact H.ne
  ·rw [h]
   intro e
   injection e with e
   have := H.lt
   have := ho.size
   omega
 refine ⟨rfl, v3, ⟨.inr (set1 hb), ?_, hne, H.le⟩, ?_, ?_⟩
 ·have h1 := own_keep hown (w' := w3.setCell ⟨b, 1, none⟩ v3) (fun g hg => heap_set_other (fun e => hne (by rw [hg, e])))
  rw [Lib.strCells_eq, ← Lib.byteCells_append] at h1
  have h2 : (Lib.byteCells l).length + s.size = (l ++ s.data.toList).length := by rw [Lib.byteCells_length, List.length_append, Lib.size_eq]
  rwa [h2] at h1
 ·refine ((ho.mono (fun k _ h => .inl h)).trans (Off.grown (Y := fun k => k = b ∨ v.ownBlock = some k) hg (fun r hr => .inr hr))).trans (Off.setCell _ _ _ (.inl rfl))
 ·rcases hat with h | h
  ·exact .inl h
  ·exact .inr ⟨_, h, ho.size⟩
set_option maxRecDepth 100000 in
theorem WriteString_calls (B b : Nat) (l : List UInt8) (v : Value) (s : ByteArray) (w : World) (h : IsB B b l v w) (hl : l.length + s.size ≤ 140737488355328) :
  Calls Tryz.prog 136 #[.pointer (some ⟨b, 0, none⟩), .string s] w (WPost B b l s v w) := by
 have hcc := copyCheck_calls B b l v w h
 obtain ⟨A0, n0, c0, rfl⟩ := own_form h.row
 have Hcc := Lib.hid hcc; have H := Lib.hid h
 clear hcc h
 go_enter Tryz.func136, Tryz.ntmps136
 have Hle : Hid (B ≤ w.heap.size) := Lib.hid (Nat.le_trans H.out.le (Nat.le_of_lt H.out.lt))
 go_wp2_with (first
  | (go_at_call 199; with_reducible refine (Hcc.out).mono ?_; rintro e w2 ⟨rfl, hc2, ho2⟩; have k1 : w2.cell? ⟨b, 1, none⟩ = some (.slice A0 n0 c0) := (cell_of_row _ b 1 _ _ _ hc2).trans rfl; have k2 := free_of hc2 1; have hrow2 := own_keep H.out.row (w' := w2) (fun g hg => ho2.block g (H.out.row.lt g hg).2 (fun e => absurd (by rw [hg, e]) H.out.ne)); have Hrow2 := Lib.hid hrow2; have Hc2 := Lib.hid hc2; have Ho2 := Lib.hid ho2; clear hc2 ho2 hrow2)
  | (at_builtin; (refine pl_append_str w2 rfl _ _ 208 9 rfl B 5 Tryz.underlying208 Tryz.underlying9 info_u8 (.slice A0 n0 c0) (Lib.byteCells l) rfl s rfl (by rw [Lib.byteCells_length]; exact Hrow2.out) (by rw [Lib.byteCells_length]; simp only [maxLen]; omega) (by rw [Lib.byteCells_length]; exact hl) (Nat.le_trans Hle.out Ho2.out.size) ?_); rintro v3 w3 hown3 hgrow3 hat3; obtain ⟨A3, n3, c3, rfl⟩ := own_form hown3; have hb3 := (hgrow3.block b (lt_heap Hc2.out) (fun e => absurd e.symm H.out.ne)).trans Hc2.out; have k3 : w3.cell? ⟨b, 1, none⟩ = some (.slice A0 n0 c0) := (cell_of_row _ b 1 _ _ _ hb3).trans rfl; have k4 := free_of hb3 1; have Hb3 := Lib.hid hb3; have Hown3 := Lib.hid hown3; have Hgrow3 := Lib.hid hgrow3; have Hat3 := Lib.hid hat3; clear hb3 hown3 hgrow3 hat3))
 go_ret2
 exact WriteString_end H.out Ho2.out Hb3.out Hown3.out Hgrow3.out Hat3.out
end Go.Proofs.YtmbhkkophkccbaaGreat.Build
end
section
namespace Go.Proofs.YtmbhkkophkccbaaGreat.Once
open Go Go.RowKit Go.Proofs.YtmbhkkophkccbaaGreat.Seq Mem
set_option linter.unusedVariables false
set_option linter.unusedSimpArgs false

theorem disable (w : World) : (callFunc 260 #[]).run Tryz.prog w = .ok (.value (.tuple #[])) w := run_call_mark0 Tryz.func260 (by kernel_rfl) (by kernel_rfl) (by kernel_rfl) .disable (by kernel_rfl) w
theorem enable (w : World) : (callFunc 262 #[]).run Tryz.prog w = .ok (.value (.tuple #[])) w := run_call_mark0 Tryz.func262 (by kernel_rfl) (by kernel_rfl) (by kernel_rfl) .enable (by kernel_rfl) w
theorem acquire (a : Addr) (w : World) : (callFunc 263 #[.pointer (some a)]).run Tryz.prog w = .ok (.value (.tuple #[])) w := run_call_marked Tryz.func263 (by kernel_rfl) (by kernel_rfl) (by kernel_rfl) .acquire (by kernel_rfl) a w
theorem releaseMerge (a : Addr) (w : World) : (callFunc 265 #[.pointer (some a)]).run Tryz.prog w = .ok (.value (.tuple #[])) w := run_call_marked Tryz.func265 (by kernel_rfl) (by kernel_rfl) (by kernel_rfl) .releaseMerge (by kernel_rfl) a w

theorem store_deferred (a : Addr) (x : Value) (u : FrameMode) (w : World) (hc : w.cell? a = some x) (hz : w.frozen? a = false) :
  CallsD Tryz.prog 251 #[.pointer (some a), .bool true] u w fun e u' w' => u' = u ∧ (e = .returned (.tuple #[]) ∧ w' = w.drew.setCell a (.int .u32 1)) := by
 have hc' : w.drew.cell? a = some x := by go_simp
 have hz' : w.drew.frozen? a = false := by go_simp
 have hst := run_call_store (P := Tryz.prog) Tryz.func256 (by kernel_rfl) (by kernel_rfl) (by kernel_rfl) (by kernel_rfl) (k := .u32) (y := 1) hc' hz'
 go_enter_d Tryz.func251, Tryz.ntmps251
 go_wp2
 go_region_calls
 all_goals (go_end0; exact ⟨rfl, rfl⟩)

set_option maxRecDepth 100000 in
theorem unlock_deferred (a : Addr) (u : FrameMode) (w : World) (hc : w.cell? a = some (.int .i32 1)) (hz : w.frozen? a = false) :
  CallsD Tryz.prog 250 #[.pointer (some a)] u w fun e u' w' => u' = u ∧ (e = .returned (.tuple #[]) ∧ w' = w.setCell a (.int .i32 0)) := by
 have hd := disable
 have he := enable
 have hr := releaseMerge
 have hadd := run_call_add (P := Tryz.prog) Tryz.func266 (by kernel_rfl) (by kernel_rfl) (by kernel_rfl) .i32 (by kernel_rfl) (y := -1) (s := 0) hc hz (by simp [go_sem]; rfl)
 first
  | have hcv := run_convert_to_unsafe (P := Tryz.prog) (src := 295) (dst := 283) Tryz.underlying295 Tryz.underlying283 (by kernel_rfl) hc
  | have hcv := run_convert_to_unsafe (P := Tryz.prog) (src := 347) (dst := 283) Tryz.underlying347 Tryz.underlying283 (by kernel_rfl) hc
  | have hcv := run_convert_to_unsafe (P := Tryz.prog) (src := 222) (dst := 283) Tryz.underlying222 Tryz.underlying283 (by kernel_rfl) hc
 go_enter_d Tryz.func250, Tryz.ntmps250
 go_wp2
 go_end0
 go_wp2
 go_end0
 exact ⟨rfl, rfl⟩

set_option maxRecDepth 100000 in
theorem lock_free (a : Addr) (w : World) (hc : w.cell? a = some (.int .i32 0)) (hz : w.frozen? a = false) :
  Calls Tryz.prog 249 #[.pointer (some a)] w fun e w' => e = .returned (.tuple #[]) ∧ w' = w.setCell a (.int .i32 1) := by
 have hd := disable
 have he := enable
 have ha := acquire
 have hcas := run_call_cas_hit (P := Tryz.prog) Tryz.func261 (by kernel_rfl) (by kernel_rfl) (by kernel_rfl) .i32 (by kernel_rfl) (y := 1) hc hz
 have hc' : (w.setCell a (.int .i32 1)).cell? a = some (.int .i32 1) := World.cell?_setCell_same w a _ hc
 first
  | have hcv := run_convert_to_unsafe (P := Tryz.prog) (src := 295) (dst := 283) Tryz.underlying295 Tryz.underlying283 (by kernel_rfl) hc'
  | have hcv := run_convert_to_unsafe (P := Tryz.prog) (src := 347) (dst := 283) Tryz.underlying347 Tryz.underlying283 (by kernel_rfl) hc'
  | have hcv := run_convert_to_unsafe (P := Tryz.prog) (src := 222) (dst := 283) Tryz.underlying222 Tryz.underlying283 (by kernel_rfl) hc'
 go_enter Tryz.func249, Tryz.ntmps249
 go_wp2
 first | go_end0 | (simp only [Exit.inBlock, Exit.then]; refine bodyPost_ret (results_none rfl _ _ _) rfl ?_) | refine bodyPost_ret (results_none rfl _ _ _) rfl ?_
 go_wp2
 go_end0
 exact ⟨rfl, rfl⟩

set_option maxRecDepth 100000 in
set_option maxHeartbeats 1600000 in
theorem slow_calls (b : Nat) (R : World → Prop) (w : World)
  (h0 : w.cell? ⟨b, 0, none⟩ = some (.int .u32 0)) (h1 : w.cell? ⟨b, 1, none⟩ = some (.int .i32 0)) (f1 : w.frozen? ⟨b, 1, none⟩ = false)
  (hR : ∀ w1, R w1 → w1.cell? ⟨b, 0, none⟩ = some (.int .u32 0) ∧ w1.cell? ⟨b, 1, none⟩ = some (.int .i32 1) ∧ w1.frozen? ⟨b, 0, none⟩ = false ∧ w1.frozen? ⟨b, 1, none⟩ = false)
  (hF : Calls Tryz.prog 227 #[.pointer (some ⟨b, 0, none⟩)] (w.setCell ⟨b, 1, none⟩ (.int .i32 1)) fun e w1 => e = .returned (.tuple #[]) ∧ R w1) :
  Calls Tryz.prog 242 #[.pointer (some ⟨b, 0, none⟩), .func (.func 227) #[.pointer (some ⟨b, 0, none⟩)] #[]] w fun e w' => e = .returned (.tuple #[]) ∧ ∃ w1, R w1 ∧
   w' = (w1.drew.setCell ⟨b, 0, none⟩ (.int .u32 1)).setCell ⟨b, 1, none⟩ (.int .i32 0) := by
 have hl := run_call_load (P := Tryz.prog) Tryz.func248 (by kernel_rfl) (by kernel_rfl) (by kernel_rfl) .u32 (by kernel_rfl) (w := w.setCell ⟨b, 1, none⟩ (.int .i32 1)) (a := ⟨b, 0, none⟩) (x := 0) ((World.cell?_setCell_other _ ⟨b, 1, none⟩ ⟨b, 0, none⟩ _ (by simp)).trans h0)
 have hnot : ∀ (x : Bool) (w : World), (Op.unary .not (.bool x)).run Tryz.prog w = .ok (.bool (!x)) w := fun _ _ => rfl
 have HR := Lib.hid hR; have HF := Lib.hid hF
 clear hR hF
 go_enter_defers Tryz.func242, Tryz.ntmps242
 go_wp2_with (first | (go_at_call 249; refine (lock_free ⟨b, 1, none⟩ _ (by go_simp) (by go_simp)).mono ?_; rintro e w' ⟨rfl, rfl⟩) | (go_at_call 227; refine (HF.out).mono ?_; rintro e w1 ⟨rfl, hr1⟩; obtain ⟨g0, g1, k0, k1⟩ := HR.out _ hr1; have Hr1 := Lib.hid hr1; clear hr1) | go_in)
 refine leaves_cons (f := 251) (args := #[.pointer (some ⟨b, 0, none⟩), .bool true]) (by simp) (by simp [go_sem]) ?_
 refine (store_deferred ⟨b, 0, none⟩ (.int .u32 0) .returning _ g0 k0).mono ?_
 rintro e u' w'' ⟨rfl, rfl, rfl⟩
 refine leaves_cons (f := 250) (args := #[.pointer (some ⟨b, 1, none⟩)]) (by simp [settle]) (by simp [go_sem]) ?_
 refine (unlock_deferred ⟨b, 1, none⟩ _ _ ?_ ?_).mono ?_
 ·refine (World.cell?_setCell_other _ ⟨b, 0, none⟩ ⟨b, 1, none⟩ _ (by simp)).trans ?_
  rw [World.cell?_drew]
  exact g1
 ·simp [k1]
 rintro e u' w'' ⟨rfl, rfl, rfl⟩
 have hfin := Hr1.out
 simp [Leaves, settle, results, Tryz.results242]
 exact ⟨_, hfin, rfl⟩
end Go.Proofs.YtmbhkkophkccbaaGreat.Once
end
section
namespace Go.Proofs.YtmbhkkophkccbaaGreat.Repl
open Go Go.RowKit Go.Proofs.YtmbhkkophkccbaaGreat.Seq Mem Build
set_option linter.unusedVariables false
set_option linter.unusedSimpArgs false

abbrev Pairs := List (UInt8 × List UInt8)
def lkd (ps : Pairs) (c : UInt8) : Option (List UInt8) := (ps.find? (fun p => p.1 == c)).map (·.2)
def flat (ps : Pairs) : List ByteArray := ps.flatMap (fun p => [⟨#[p.1]⟩, ⟨p.2.toArray⟩])
theorem flat_length : ∀ ps : Pairs, (flat ps).length = 2 * ps.length
 | [] => rfl
 | p :: ps => by
  have := flat_length ps
  unfold flat at this ⊢
  rw [List.flatMap_cons, List.length_append, this]
  simp; omega
theorem flat_cons (p : UInt8 × List UInt8) (ps : Pairs) : flat (p :: ps) = ⟨#[p.1]⟩ :: ⟨p.2.toArray⟩ :: flat ps := by unfold flat; rw [List.flatMap_cons]; rfl
theorem flat_even : ∀ {ps : Pairs} {k : Nat} (h : k < ps.length), (flat ps)[2 * k]? = some ⟨#[ps[k].1]⟩
 | p :: ps, 0, h => by rw [flat_cons]; rfl
 | p :: ps, k + 1, h => by rw [flat_cons, show 2 * (k + 1) = 2 * k + 1 + 1 by omega, List.getElem?_cons_succ, List.getElem?_cons_succ, flat_even (by simpa using h)]; rfl
theorem flat_odd : ∀ {ps : Pairs} {k : Nat} (h : k < ps.length), (flat ps)[2 * k + 1]? = some ⟨ps[k].2.toArray⟩
 | p :: ps, 0, h => by rw [flat_cons]; rfl
 | p :: ps, k + 1, h => by rw [flat_cons, show 2 * (k + 1) + 1 = 2 * k + 1 + 1 + 1 by omega, List.getElem?_cons_succ, List.getElem?_cons_succ, flat_odd (by simpa using h)]; rfl

def onceRow (d : Int) (r so : Value) : Array Value := #[.int .u32 d, .int .i32 0, .int .u32 0, r, so]
def tabRow (tb : Nat → Value) (tr : Value) : Array Value := ((List.range 256).map tb ++ [tr]).toArray
def Table (T : Nat) (ps : Pairs) (ks : List UInt8) (F : Nat → Prop) (w : World) : Prop :=
 ∃ (tb : Nat → Value) (tr : Value), w.heap[T]? = some (.cells (tabRow tb tr) 331 (0, 0)) ∧ F T ∧
  (∀ c : UInt8, (lkd ps c = none → tb c.toNat = .slice none 0 0) ∧ ∀ r, lkd ps c = some r → ∃ g cap, tb c.toNat = .slice (some ⟨g, 0, none⟩) r.length cap ∧ F g ∧ g ≠ T ∧ tr.ownBlock ≠ some g ∧ g < w.heap.size ∧ ∀ j (h : j < r.length), w.cell? ⟨g, j, none⟩ = some (.int .u8 (r[j].toNat : Int))) ∧
  (w.ownsRow 0 9 1 tr ks.length (ks.map (fun c => Value.string ⟨#[c]⟩)) ∧ ∀ g, tr.ownBlock = some g → F g ∧ g ≠ T)
def keysOf (ps : Pairs) : List UInt8 := (ps.map (·.1)).reverse
def IsRep (rb : Nat) (ps : Pairs) (F : Nat → Prop) (w : World) : Prop :=
 (∃ so, w.heap[rb]? = some (.cells (onceRow 0 .nilIface so) 300 (0, 0)) ∧ w.ownsRow 0 9 1 so (flat ps).length ((flat ps).map Value.string) ∧ ∀ g, so.ownBlock = some g → F g) ∨
 (∃ T, w.heap[rb]? = some (.cells (onceRow 1 (.iface 332 (.pointer (some ⟨T, 0, none⟩))) (.slice none 0 0)) 300 (0, 0)) ∧ Table T ps (keysOf ps) F w)
theorem cell_same {w w' : World} {g : Nat} (h : w'.heap[g]? = w.heap[g]?) (j : Nat) : w'.cell? ⟨g, j, none⟩ = w.cell? ⟨g, j, none⟩ := by simp [World.cell?, h]
theorem Table.keep {T : Nat} {ps : Pairs} {ks : List UInt8} {F F' : Nat → Prop} {w w' : World} (h : Table T ps ks F w) (hF : ∀ k, F k → w'.heap[k]? = w.heap[k]?) (hF' : ∀ k, F k → F' k) : Table T ps ks F' w' := by
 obtain ⟨tb, tr, h1, h2, h3, h4, h5⟩ := h
 refine ⟨tb, tr, (hF T h2).trans h1, hF' T h2, fun c => ⟨(h3 c).1, fun r hr => ?_⟩, own_keep h4 (fun g hg => hF g (h5 g hg).1), fun g hg => ⟨hF' g (h5 g hg).1, (h5 g hg).2⟩⟩
 obtain ⟨g, cap, hg, hfg, hgT, hgr, hlt, ho⟩ := (h3 c).2 r hr
 have e := hF g hfg
 refine ⟨g, cap, hg, hF' g hfg, hgT, hgr, ?_, fun j hj => (cell_same e j).trans (ho j hj)⟩
 have h6 : w'.heap[g]? = some w.heap[g] := e.trans (Array.getElem?_eq_getElem hlt)
 exact lt_heap h6
theorem IsRep.keep {rb : Nat} {ps : Pairs} {F F' : Nat → Prop} {w w' : World} (h : IsRep rb ps F w) (hr : w'.heap[rb]? = w.heap[rb]?) (hF : ∀ k, F k → w'.heap[k]? = w.heap[k]?) (hF' : ∀ k, F k → F' k) : IsRep rb ps F' w' := by
 rcases h with ⟨so, h1, h2, h3⟩ | ⟨T, h1, h2⟩
 ·exact .inl ⟨so, hr.trans h1, own_keep h2 (fun g hg => hF g (h3 g hg)), fun g hg => hF' g (h3 g hg)⟩
 ·exact .inr ⟨T, hr.trans h1, h2.keep hF hF'⟩
theorem info_str : (Tryz.prog.info? 9).map (fun i => (i.zero, i.size, i.bytes)) = some (some (.string ⟨#[]⟩), 1, 16) := by kernel_rfl
theorem str_one (l : List ByteArray) : ∀ u ∈ l.map Value.string, u.oneCell' = true := by
 intro u hu
 obtain ⟨s, _, rfl⟩ := List.mem_map.1 hu
 rfl
theorem own_base {w : World} {base base' : Nat} {e : TypeId} {sz : Nat} {v : Value} {n : Nat} {xs : List Value} (h : w.ownsRow base e sz v n xs) (hb : base' ≤ base) : w.ownsRow base' e sz v n xs := by
 refine ⟨h.1, ?_⟩
 rcases h.2 with h2 | ⟨g, cap, cur, h2, h3, h4⟩
 ·exact .inl h2
 ·exact .inr ⟨g, cap, cur, h2, Nat.le_trans hb h3, h4⟩
theorem setCell_row {w : World} {b i : Nat} {cs : Array Value} {t : TypeId} {fz : Nat × Nat} {v : Value} (h : w.heap[b]? = some (.cells cs t fz)) : (w.setCell ⟨b, i, none⟩ v).heap[b]? = some (.cells (cs.setIfInBounds i v) t fz) := by
 simp only [World.setCell, Array.getElem?_modify, h]
 simp
def NewPost (w : World) (ps : Pairs) (e : Ending) (w' : World) : Prop :=
 ∃ rb F, e = .returned (.pointer (some ⟨rb, 0, none⟩)) ∧ w.heap.size ≤ rb ∧ IsRep rb ps F w' ∧ (∀ k, F k → w.heap.size ≤ k ∧ k < w'.heap.size ∧ k ≠ rb) ∧ Below w.heap.size w w'
set_option maxRecDepth 100000 in
theorem NewReplacer_calls (w : World) (ps : Pairs) (hn : 0 < ps.length) (hn2 : ps.length ≤ 100) (b : Nat) (hb : w.heap[b]? = some (.cells ((flat ps).map Value.string).toArray 9 (0, 0))) (n : Nat) (hnn : n = (flat ps).length) :
  Calls Tryz.prog 200 #[.slice (some ⟨b, 0, none⟩) n n] w (NewPost w ps) := by
 have hl := flat_length ps
 obtain ⟨i0, hi, hz0, hz1, hz2⟩ := info_parts info_str
 have hcell : ∀ j u, ((flat ps).map Value.string)[j]? = some u → w.cell? ((⟨b, 0, none⟩ : Addr).add j) = some u := fun j u hj => by
  rw [Addr.add_lit, cell_of_row _ _ _ _ _ _ hb]
  simpa using hj
 have hm2 : (n : Int) % 2 = 0 := by omega
 have hlen : ((flat ps).map Value.string).length = n * 1 := by rw [List.length_map]; omega
 have hn3 : n ≤ 200 := by omega
 have Hcell := Lib.hid hcell; have Hlen := Lib.hid hlen; have Hnn := Lib.hid hnn
 clear hcell hlen hl hb hnn
 go_enter Tryz.func200, Tryz.ntmps200
 go_wp2_with (at_builtin; go_loud (refine wpList_append_own_at w rfl _ _ 258 rfl w.heap.size 9 i0 (.string ⟨#[]⟩) 1 16 Tryz.underlying258 hi hz0 hz1 hz2 rfl (by decide) (.slice none 0 0) 0 [] rfl (World.ownsRow_nil _ _ _ _) ⟨b, 0, none⟩ n n ((flat ps).map Value.string) rfl Hlen.out Hcell.out (str_one _) (by simp only [maxLen]; omega) (by omega) (Nat.le_refl _) ?_); rintro v1 w1 hown hgrow hnil hat; obtain ⟨A1, n1, c1, rfl⟩ := own_form hown; have Hown := Lib.hid hown; have Hgrow := Lib.hid hgrow; have Hat := Lib.hid hat; clear hown hgrow hnil hat)
 go_ret
 refine ⟨w1.heap.size, fun k => (Value.slice A1 n1 c1).ownBlock = some k, rfl, Hgrow.out.size, .inl ⟨.slice A1 n1 c1, heap_new rfl, ?_, fun g hg => hg⟩, fun k hk => ?_, ?_⟩
 ·have h1 := own_keep Hown.out (w' := w1.alloc (.cells (onceRow 0 .nilIface (.slice A1 n1 c1)) 300)) (fun g hg => Below.heap_alloc _ _ _ (Hown.out.lt g hg).2)
  rw [List.nil_append, Nat.zero_add] at h1
  rw [← Hnn.out]
  exact own_base h1 (Nat.zero_le _)
 ·have := Hown.out.lt k hk
  exact ⟨this.1, by simp; omega, by omega⟩
 ·exact ((Off.grown (Y := fun b => w.heap.size ≤ b) Hgrow.out (fun r hr => by cases hr)).toBelow (Nat.le_refl _) (fun b hb => hb)).alloc Hgrow.out.size _
end Go.Proofs.YtmbhkkophkccbaaGreat.Repl
end
