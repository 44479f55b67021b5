import Derived.Deep.QuietTactic
import Derived.BigQuiet
import Derived.Deep.Cut
import Derived.Maps.OwnOps
import Derived.Test.YtmbhkkophkccbaaGreatC08
import Derived.Test.YtmbhkkophkccbaaGreatC03
import Derived.Test.YtmbhkkophkccbaaGreatC05
import Derived.Test.YtmbhkkophkccbaaGreatC06
import Derived.Test.YtmbhkkophkccbaaGreatC04
section
namespace Go.Proofs.YtmbhkkophkccbaaGreat.OpMay
open Go Go.RowKit Go.Proofs.YtmbhkkophkccbaaGreat.Seq WS FS Mem Rd
set_option linter.unusedVariables false
set_option linter.unusedSimpArgs false

theorem num0_calls (W : World) (b i : Nat) (z : Int) (h : W.cell? ⟨b, i, none⟩ = some (.int .i64 z)) (hf : W.frozen? ⟨b, i, none⟩ = false) : Calls Tryz.prog 156 #[.pointer (some ⟨b, i, none⟩)] W fun e w' => e = .returned (.tuple #[]) ∧ W.setCell ⟨b, i, none⟩ (.int .i64 0) = w' := by
 go_enter Tryz.func156, Tryz.ntmps156
 go_wp2_with fail
 first | go_end0 | refine bodyPost_ret (results_none rfl _ _ _) rfl ?_
 exact ⟨rfl, rfl⟩
theorem str0_calls (W : World) (b i : Nat) (z : ByteArray) (h : W.cell? ⟨b, i, none⟩ = some (.string z)) (hf : W.frozen? ⟨b, i, none⟩ = false) : Calls Tryz.prog 157 #[.pointer (some ⟨b, i, none⟩)] W fun e w' => e = .returned (.tuple #[]) ∧ W.setCell ⟨b, i, none⟩ (.string ⟨#[]⟩) = w' := by
 go_enter Tryz.func157, Tryz.ntmps157
 go_wp2_with fail
 first | go_end0 | refine bodyPost_ret (results_none rfl _ _ _) rfl ?_
 exact ⟨rfl, rfl⟩
def zN (n : Int) (o : Opn) (j : Nat) : Opn := { o with id := if 0 < n ∧ 0 < j then 0 else o.id, to := if 1 < n ∧ 1 < j then 0 else o.to, at_ := if 2 < n ∧ 2 < j then 0 else o.at_ }
def zO (n : Int) (bn bt : Bool) (o : Opn) : Opn := { zN n o 3 with name := if bn then ⟨#[]⟩ else o.name, text := if bt then ⟨#[]⟩ else o.text }
def EachPost (b : Nat) (o' : Opn) (w : World) (e : Ending) (w' : World) : Prop := e = .returned (.tuple #[]) ∧ w'.heap[b]? = some (.cells (opRow o') 104 (0, 0)) ∧ Off (fun x => x = b) w w'
theorem op_cells {W : World} {b : Nat} {o : Opn} (h : W.heap[b]? = some (.cells (opRow o) 104 (0, 0))) : W.cell? ⟨b, 0, none⟩ = some (.int .i64 o.kind) ∧ W.cell? ⟨b, 1, none⟩ = some (.int .i64 o.id) ∧ W.cell? ⟨b, 2, none⟩ = some (.int .i64 o.to) ∧ W.cell? ⟨b, 3, none⟩ = some (.int .i64 o.at_) ∧ W.cell? ⟨b, 4, none⟩ = some (.string o.name) ∧ W.cell? ⟨b, 5, none⟩ = some (.string o.text) ∧ (∀ j, W.frozen? ⟨b, j, none⟩ = false) :=
 ⟨(cell_of_row _ _ _ _ _ _ h).trans rfl, (cell_of_row _ _ _ _ _ _ h).trans rfl, (cell_of_row _ _ _ _ _ _ h).trans rfl, (cell_of_row _ _ _ _ _ _ h).trans rfl, (cell_of_row _ _ _ _ _ _ h).trans rfl, (cell_of_row _ _ _ _ _ _ h).trans rfl, free_of h⟩
theorem ix0 (b : Nat) (w : World) : (Instr.index 275 (.agg #[.pointer (some ⟨b, 1, none⟩), .pointer (some ⟨b, 2, none⟩), .pointer (some ⟨b, 3, none⟩)]) (.int .i64 0)).run Tryz.prog w = .ok (.pointer (some ⟨b, 1, none⟩)) w := by kernel_rfl
theorem ix1 (b : Nat) (w : World) : (Instr.index 275 (.agg #[.pointer (some ⟨b, 1, none⟩), .pointer (some ⟨b, 2, none⟩), .pointer (some ⟨b, 3, none⟩)]) (.int .i64 1)).run Tryz.prog w = .ok (.pointer (some ⟨b, 2, none⟩)) w := by kernel_rfl
theorem ix2 (b : Nat) (w : World) : (Instr.index 275 (.agg #[.pointer (some ⟨b, 1, none⟩), .pointer (some ⟨b, 2, none⟩), .pointer (some ⟨b, 3, none⟩)]) (.int .i64 2)).run Tryz.prog w = .ok (.pointer (some ⟨b, 3, none⟩)) w := by kernel_rfl
set_option maxRecDepth 100000 in
set_option maxHeartbeats 4000000 in
theorem each_calls (b : Nat) (o : Opn) (s : ByteArray) (n : Int) (bn bt : Bool) (w : World) (h : w.heap[b]? = some (.cells (opRow o) 104 (0, 0))) :
  Calls Tryz.prog 155 #[.pointer (some ⟨b, 0, none⟩), .agg #[.string s, .int .i64 n, .bool bn, .bool bt], .func (.func 156) #[] #[], .func (.func 157) #[] #[]] w (EachPost b (zO n bn bt o) w) := by
 have H := Lib.hid h
 have hbl := lt_heap h
 have hbne : b ≠ w.heap.size := by omega
 clear h
 go_enter Tryz.func155, Tryz.ntmps155
 go_wp2_with fail
 go_quiet (fail)
 obtain ⟨w1, hw1⟩ : ∃ w1, (w.alloc (.cells #[.string s, .int .i64 n, .bool bn, .bool bt] 230)).drewN nq = w1 := ⟨_, rfl⟩
 have hx1 : w1.heap[w.heap.size]? = some (.cells #[.string s, .int .i64 n, .bool bn, .bool bt] 230 (0, 0)) := by rw [← hw1]; exact World.alloc_heap_new w _
 have hb1 : w1.heap[b]? = some (.cells (opRow (zN n o 0)) 104 (0, 0)) := by
  rw [← hw1]
  refine (Below.heap_alloc _ _ _ hbl).trans (H.out.trans ?_)
  simp [zN]
 have hoff1 : Off (fun x => x = b) w w1 := by rw [← hw1]; exact (Off.alloc _ _ _).trans (Off.drewN _ _ _)
 rw [hw1]
 have Hx1 := Lib.hid hx1; have Hb1 := Lib.hid hb1; have Hoff1 := Lib.hid hoff1
 clear hw1 hx1 hb1 hoff1 H
 go_wp2_with fail
 go_loopw [20] (fun i wr => ∃ (j : Nat) (z : Int), Hid (z = j) ∧ j ≤ 3 ∧ i = .int .i64 z ∧ wr.heap[b]? = some (.cells (opRow (zN n o j)) 104 (0, 0)) ∧ wr.heap[w.heap.size]? = some (.cells #[.string s, .int .i64 n, .bool bn, .bool bt] 230 (0, 0)) ∧ Off (fun x => x = b) w wr) (fun i _ => 3 - (intOf i).toNat)
 case atStart => exact ⟨0, 0, Lib.hid rfl, by omega, rfl, Hb1.out, Hx1.out, Hoff1.out⟩
 case round =>
  obtain ⟨j, z, hz, hj3, rfl, hrow, hx, hoff⟩ := hrel
  have hzj := hz.out
  clear hz
  obtain ⟨c0, c1, c2, c3, c4, c5, cf⟩ := op_cells hrow
  have x1 : wr.cell? ⟨w.heap.size, 1, none⟩ = some (.int .i64 n) := (cell_of_row _ _ _ _ _ _ hx).trans rfl
  have x2 : wr.cell? ⟨w.heap.size, 2, none⟩ = some (.bool bn) := (cell_of_row _ _ _ _ _ _ hx).trans rfl
  have x3 : wr.cell? ⟨w.heap.size, 3, none⟩ = some (.bool bt) := (cell_of_row _ _ _ _ _ _ hx).trans rfl
  have Hrow := Lib.hid hrow; have Hx := Lib.hid hx; have Hoff := Lib.hid hoff
  clear hrow hx hoff Hb1 Hx1 Hoff1
  have num := num0_calls
  have Num := Lib.hid num
  clear num
  have i0 := ix0 b; have i1 := ix1 b; have i2 := ix2 b
  rcases (show (z = 0 ∧ j = 0) ∨ (z = 1 ∧ j = 1) ∨ (z = 2 ∧ j = 2) ∨ (z = 3 ∧ j = 3) by omega) with ⟨rfl, rfl⟩ | ⟨rfl, rfl⟩ | ⟨rfl, rfl⟩ | ⟨rfl, rfl⟩
  all_goals clear hzj
  ·by_cases hn : (0 : Int) < n
   ·go_wp2_with (go_at_call 156; ((with_reducible refine (Num.out _ _ _ _ c1 (cf 1)).mono ?_); rintro e w5 ⟨rfl, rfl⟩))
    go_roundw
    case rel => exact ⟨1, 1, Lib.hid rfl, by omega, rfl, (Repl.setCell_row Hrow.out).trans (by simp [zN, hn]), (Below.heap_setCell _ _ _ _ (fun e => hbne e.symm)).trans Hx.out, Hoff.out.trans (Off.setCell _ _ _ rfl)⟩
    case measure => simp [intOf]; try omega
   ·go_wp2_with fail
    go_roundw
    case rel => exact ⟨1, 1, Lib.hid rfl, by omega, rfl, Hrow.out.trans (by simp [zN, hn]), Hx.out, Hoff.out⟩
    case measure => simp [intOf]; try omega
  ·by_cases hn : (1 : Int) < n
   ·go_wp2_with (go_at_call 156; ((with_reducible refine (Num.out _ _ _ _ c2 (cf 2)).mono ?_); rintro e w5 ⟨rfl, rfl⟩))
    go_roundw
    case rel => exact ⟨2, 2, Lib.hid rfl, by omega, rfl, (Repl.setCell_row Hrow.out).trans (by simp [zN, hn]), (Below.heap_setCell _ _ _ _ (fun e => hbne e.symm)).trans Hx.out, Hoff.out.trans (Off.setCell _ _ _ rfl)⟩
    case measure => simp [intOf]; try omega
   ·go_wp2_with fail
    go_roundw
    case rel => exact ⟨2, 2, Lib.hid rfl, by omega, rfl, Hrow.out.trans (by simp [zN, hn]), Hx.out, Hoff.out⟩
    case measure => simp [intOf]; try omega
  ·by_cases hn : (2 : Int) < n
   ·go_wp2_with (go_at_call 156; ((with_reducible refine (Num.out _ _ _ _ c3 (cf 3)).mono ?_); rintro e w5 ⟨rfl, rfl⟩))
    go_roundw
    case rel => exact ⟨3, 3, Lib.hid rfl, by omega, rfl, (Repl.setCell_row Hrow.out).trans (by simp [zN, hn]), (Below.heap_setCell _ _ _ _ (fun e => hbne e.symm)).trans Hx.out, Hoff.out.trans (Off.setCell _ _ _ rfl)⟩
    case measure => simp [intOf]; try omega
   ·go_wp2_with fail
    go_roundw
    case rel => exact ⟨3, 3, Lib.hid rfl, by omega, rfl, Hrow.out.trans (by simp [zN, hn]), Hx.out, Hoff.out⟩
    case measure => simp [intOf]; try omega
  ·have Str := Lib.hid str0_calls
   have hzn : (zN n o 3).name = o.name := rfl
   have hzt : (zN n o 3).text = o.text := rfl
   rw [hzn] at c4
   rw [hzt] at c5
   clear hzn hzt
   have c5' : ∀ u, (wr.setCell ⟨b, 4, none⟩ u).cell? ⟨b, 5, none⟩ = some (.string o.text) := fun u => (World.cell?_setCell_other _ _ _ _ (fun e => by cases e)).trans c5
   have cf' : ∀ u, (wr.setCell ⟨b, 4, none⟩ u).frozen? ⟨b, 5, none⟩ = false := fun u => (World.frozen?_setCell _ _ _ _).trans (cf 5)
   have C5 := Lib.hid c5'; have Cf := Lib.hid cf'
   clear c5' cf'
   cases bn <;> cases bt
   all_goals
    go_wp2_with (first
     | (go_at_call 157; ((with_reducible refine (Str.out _ b 4 _ c4 (cf 4)).mono ?_); rintro e w5 ⟨rfl, rfl⟩))
     | (go_at_call 157; ((with_reducible refine (Str.out _ b 5 _ c5 (cf 5)).mono ?_); rintro e w6 ⟨rfl, rfl⟩))
     | (go_at_call 157; ((with_reducible refine (Str.out _ b 5 _ (C5.out _) (Cf.out _)).mono ?_); rintro e w6 ⟨rfl, rfl⟩)))
    first | go_end0 | refine bodyPost_ret (results_none rfl _ _ _) rfl ?_
    refine ⟨rfl, ?_, ?_⟩
    ·first
      | exact (Repl.setCell_row (Repl.setCell_row Hrow.out)).trans (by simp [zO, show (zN n o 3).name = o.name from rfl, show (zN n o 3).text = o.text from rfl])
      | exact (Repl.setCell_row Hrow.out).trans (by simp [zO, show (zN n o 3).name = o.name from rfl, show (zN n o 3).text = o.text from rfl])
      | exact Hrow.out.trans (by simp [zO, show (zN n o 3).name = o.name from rfl, show (zN n o 3).text = o.text from rfl])
    ·first
      | exact (Hoff.out.trans (Off.setCell _ _ _ rfl)).trans (Off.setCell _ _ _ rfl)
      | exact Hoff.out.trans (Off.setCell _ _ _ rfl)
      | exact Hoff.out
theorem if_iff {α : Type} {c : Prop} [Decidable c] {x d : α} : ((if c then d else x) = d) ↔ (c ∨ x = d) := by
 split
 ·exact ⟨fun _ => .inl (by assumption), fun _ => rfl⟩
 ·exact ⟨fun h => .inr h, fun h => h.resolve_left (by assumption)⟩
theorem zO_same {o : Opn} : (decide (zO (shapeN o.kind) (shapeA o.kind) (shapeT o.kind) o = { kind := o.kind })) = ((decide (1 ≤ shapeN o.kind) || o.id == 0) && (decide (2 ≤ shapeN o.kind) || o.to == 0) && (decide (3 ≤ shapeN o.kind) || o.at_ == 0) && (shapeA o.kind || decide (o.name.size = 0)) && (shapeT o.kind || decide (o.text.size = 0))) := by
 have hs : ∀ s : ByteArray, (s = ⟨#[]⟩) ↔ s.size = 0 := fun s => by
  constructor
  ·rintro rfl; rfl
  ·intro h
   obtain ⟨d⟩ := s
   have : d = #[] := Array.eq_empty_of_size_eq_zero h
   rw [this]
 rw [Bool.eq_iff_iff]
 obtain ⟨k, id, to, at', nm, tx⟩ := o
 simp only [decide_eq_true_eq, Bool.and_eq_true, Bool.or_eq_true, beq_iff_eq, zO, zN, Opn.mk.injEq, true_and]
 have h1 : (0 < shapeN k ∧ 0 < 3) ↔ 1 ≤ shapeN k := by omega
 have h2 : (1 < shapeN k ∧ 1 < 3) ↔ 2 ≤ shapeN k := by omega
 have h3 : (2 < shapeN k ∧ 2 < 3) ↔ 3 ≤ shapeN k := by omega
 simp only [h1, h2, h3]
 have e1 := if_iff (c := 1 ≤ shapeN k) (x := id) (d := 0)
 have e2 := if_iff (c := 2 ≤ shapeN k) (x := to) (d := 0)
 have e3 := if_iff (c := 3 ≤ shapeN k) (x := at') (d := 0)
 have e4 := if_iff (c := shapeA k = true) (x := nm) (d := (⟨#[]⟩ : ByteArray))
 have e5 := if_iff (c := shapeT k = true) (x := tx) (d := (⟨#[]⟩ : ByteArray))
 rw [e1, e2, e3, e4, e5, hs, hs]
 simp only [and_assoc]
end Go.Proofs.YtmbhkkophkccbaaGreat.OpMay
end
section
namespace Go.Proofs.YtmbhkkophkccbaaGreat.OpMay
open Go Go.RowKit Go.Proofs.YtmbhkkophkccbaaGreat.Seq WS FS Mem Rd
set_option linter.unusedVariables false
set_option linter.unusedSimpArgs false

def OpMayPost (o : Opn) (w : World) (e : Ending) (w' : World) : Prop := e = .returned (.bool (mayO o)) ∧ Below w.heap.size w w'
theorem empty_toList (s : ByteArray) : s = ⟨#[]⟩ ↔ s.toList = [] := by
 have := FSame.str_inj s ⟨#[]⟩
 have h0 : (⟨#[]⟩ : ByteArray).toList = [] := by rw [ByteArray.toList_eq]
 rw [h0] at this
 exact (iff_of_eq this).symm
theorem z_iff {z : Opn} {k : Int} (h : z.kind = k) : z = { kind := k } ↔ z.id = 0 ∧ z.to = 0 ∧ z.at_ = 0 ∧ z.name.toList = [] ∧ z.text.toList = [] := by
 obtain ⟨a, b, c, d, e, f⟩ := z
 simp only at h
 subst h
 rw [Opn.mk.injEq, empty_toList, empty_toList]
 simp
set_option maxRecDepth 100000 in
set_option maxHeartbeats 4000000 in
theorem opMay_calls (o : Opn) (w : World) : Calls Tryz.prog 107 #[.agg #[.int .i64 o.kind, .int .i64 o.id, .int .i64 o.to, .int .i64 o.at_, .string o.name, .string o.text]] w (OpMayPost o w) := by
 obtain ⟨w1, hw1⟩ : ∃ w1, w.alloc (.cells #[.int .i64 o.kind, .int .i64 o.id, .int .i64 o.to, .int .i64 o.at_, .string o.name, .string o.text] 104) = w1 := ⟨_, rfl⟩
 have hrow : w1.heap[w.heap.size]? = some (.cells (opRow o) 104 (0, 0)) := by rw [← hw1]; exact World.alloc_heap_new w _
 have hb1 : Below w.heap.size w w1 := by rw [← hw1]; exact (Below.refl _ _).alloc (Nat.le_refl _) _
 have hs1 : w1.heap.size = w.heap.size + 1 := by rw [← hw1]; simp
 by_cases hk : 1 ≤ o.kind ∧ o.kind ≤ 8
 ·obtain ⟨k, hko⟩ : ∃ k : Nat, o.kind = k := ⟨o.kind.toNat, by omega⟩
  have hc := shaped_calls k (by omega) (by omega) w1
  rw [← hko] at hc
  have hcell := fun w' (hb : Below w1.heap.size w1 w') => op_cells ((hb.block w.heap.size (by omega)).trans hrow)
  have Hc := Lib.hid hc; have Hb1 := Lib.hid hb1; have Hw1 := Lib.hid hw1; have Hcell := Lib.hid hcell; have Hs1 := Lib.hid hs1
  have hdk : decide (1 ≤ o.kind ∧ o.kind ≤ 8) = true := decide_eq_true hk
  have Hdk := Lib.hid hdk
  obtain ⟨c0, _, _, _, _, _, cf⟩ := op_cells hrow
  clear hc hb1 hw1 hrow hk hko hcell hs1 hdk
  by_cases hn : o.name.size ≤ 255
  ·by_cases ht : o.text.size ≤ 255
   ·obtain ⟨z, hz⟩ : ∃ z, z = zO (shapeN o.kind) (shapeA o.kind) (shapeT o.kind) o := ⟨_, rfl⟩
    have heq := eql_op z { kind := o.kind }
    simp only at heq
    have hm : mayO o = decide (z = { kind := o.kind }) := by
     rw [hz, zO_same]
     unfold mayO
     rw [Hdk.out, decide_eq_true hn, decide_eq_true ht]
     simp
    have Hm := Lib.hid hm; have Hz := Lib.hid hz
    clear hm hz
    go_enter Tryz.func107, Tryz.ntmps107
    go_upto_region 1 with (fail)
    rw [Hw1.out]
    go_upto_region 5 with (go_at_call 154; ((with_reducible refine (Hc.out).mono ?_); rintro e w5 ⟨⟨s5, rfl⟩, hb5⟩; obtain ⟨d0, d1, d2, d3, d4, d5, df⟩ := Hcell.out _ hb5; have a0 := fun ob => cell_alloc d0 ob; have a1 := fun ob => cell_alloc d1 ob; have a2 := fun ob => cell_alloc d2 ob; have a3 := fun ob => cell_alloc d3 ob; have a4 := fun ob => cell_alloc d4 ob; have a5 := fun ob => cell_alloc d5 ob; have Hb5 := Lib.hid hb5; clear hb5))
    obtain ⟨w6, hw6⟩ : ∃ w6, (w5.alloc (.cells #[.string s5, .int .i64 (shapeN o.kind), .bool (shapeA o.kind), .bool (shapeT o.kind)] 230)).alloc (.cells #[.int .i64 o.kind, .int .i64 o.id, .int .i64 o.to, .int .i64 o.at_, .string o.name, .string o.text] 104) = w6 := ⟨_, rfl⟩
    have hrow6 : w6.heap[w5.heap.size + 1]? = some (.cells (opRow o) 104 (0, 0)) := by rw [← hw6]; have := World.alloc_heap_new (w5.alloc (.cells #[.string s5, .int .i64 (shapeN o.kind), .bool (shapeA o.kind), .bool (shapeT o.kind)] 230)) (.cells (opRow o) 104); rwa [World.size_alloc] at this
    have hx6 : w6.heap[w5.heap.size]? = some (.cells #[.string s5, .int .i64 (shapeN o.kind), .bool (shapeA o.kind), .bool (shapeT o.kind)] 230 (0, 0)) := by rw [← hw6]; exact heap_old (World.alloc_heap_new w5 _)
    have hb6 : Below w.heap.size w w6 := by rw [← hw6]; exact ((bthen Hb1.out Hb5.out).alloc (by have := Hb1.out.size; have := Hb5.out.size; omega) _).alloc (by simp; have := Hb1.out.size; have := Hb5.out.size; omega) _
    have hk6 : w6.cell? ⟨w.heap.size, 0, none⟩ = some (.int .i64 o.kind) := by rw [← hw6]; exact cell_alloc (cell_alloc d0 _) _
    have he := each_calls (w5.heap.size + 1) o s5 (shapeN o.kind) (shapeA o.kind) (shapeT o.kind) w6 hrow6
    rw [← Hz.out] at he
    have x0 : w6.cell? ⟨w5.heap.size, 0, none⟩ = some (.string s5) := (cell_of_row _ _ _ _ _ _ hx6).trans rfl
    have x1 : w6.cell? ⟨w5.heap.size, 1, none⟩ = some (.int .i64 (shapeN o.kind)) := (cell_of_row _ _ _ _ _ _ hx6).trans rfl
    have x2 : w6.cell? ⟨w5.heap.size, 2, none⟩ = some (.bool (shapeA o.kind)) := (cell_of_row _ _ _ _ _ _ hx6).trans rfl
    have x3 : w6.cell? ⟨w5.heap.size, 3, none⟩ = some (.bool (shapeT o.kind)) := (cell_of_row _ _ _ _ _ _ hx6).trans rfl
    rw [hw6]
    have hs5 := Hb5.out.size
    have hs11 := Hs1.out
    have hne : w.heap.size ≠ w5.heap.size + 1 := by omega
    have hle : w.heap.size ≤ w5.heap.size + 1 := by omega
    have hl6 := lt_heap hrow6
    have He := Lib.hid he; have hb6' := Lib.hid hb6; have Hk6 := Lib.hid hk6
    have hkz : z.kind = o.kind := by rw [Hz.out]; rfl
    clear he hb6 hw6 hrow6 hx6 d0 d1 d2 d3 d4 d5 df hs5 hs11 a0 a1 a2 a3 a4 a5
    go_wp2_with (go_at_call 155; ((with_reducible refine (He.out).mono ?_); rintro e w7 ⟨rfl, hr7, ho7⟩; obtain ⟨e0, e1, e2, e3, e4, e5, ef⟩ := op_cells hr7; have k7 : w7.cell? ⟨w.heap.size, 0, none⟩ = some (.int .i64 o.kind) := (World.cell?_of_block (ho7.block _ (World.block_lt_of_cell? _ _ Hk6.out) hne)).trans Hk6.out; have Ho7 := Lib.hid ho7; clear ho7 hr7))
    all_goals
     go_ret
     refine ⟨Word.ret_bool ?_, hb6'.out.trans (Ho7.out.toBelow hb6'.out.size (fun b hb => by rw [hb]; exact hle))⟩
     rw [Hm.out]
     first
      | (symm; rw [decide_eq_true_eq]; exact (z_iff hkz).2 ⟨by assumption, by assumption, by assumption, by assumption, by assumption⟩)
      | (symm; rw [decide_eq_false_iff_not, z_iff hkz]; simp [*])
      | (rw [Bool.eq_iff_iff, decide_eq_true_eq, z_iff hkz]; simp [*])
   ·have hm : mayO o = false := by
     unfold mayO
     rw [decide_eq_false ht]
     simp
    have Hm := Lib.hid hm
    clear hm
    go_enter Tryz.func107, Tryz.ntmps107
    go_upto_region 1 with (fail)
    rw [Hw1.out]
    go_wp2_with (go_at_call 154; ((with_reducible refine (Hc.out).mono ?_); rintro e w5 ⟨⟨s5, rfl⟩, hb5⟩; obtain ⟨d0, d1, d2, d3, d4, d5, df⟩ := Hcell.out _ hb5; have a0 := fun ob => cell_alloc d0 ob; have a1 := fun ob => cell_alloc d1 ob; have a2 := fun ob => cell_alloc d2 ob; have a3 := fun ob => cell_alloc d3 ob; have a4 := fun ob => cell_alloc d4 ob; have a5 := fun ob => cell_alloc d5 ob; have Hb5 := Lib.hid hb5; clear hb5))
    go_ret
    exact ⟨by rw [Hm.out]; rfl, (bthen Hb1.out Hb5.out).alloc (by have := Hb1.out.size; have := Hb5.out.size; omega) _⟩
  ·have hm : mayO o = false := by
    unfold mayO
    rw [decide_eq_false hn]
    simp
   have Hm := Lib.hid hm
   clear hm
   go_enter Tryz.func107, Tryz.ntmps107
   go_upto_region 1 with (fail)
   rw [Hw1.out]
   go_wp2_with (go_at_call 154; ((with_reducible refine (Hc.out).mono ?_); rintro e w5 ⟨⟨s5, rfl⟩, hb5⟩; obtain ⟨d0, d1, d2, d3, d4, d5, df⟩ := Hcell.out _ hb5; have a0 := fun ob => cell_alloc d0 ob; have a1 := fun ob => cell_alloc d1 ob; have a2 := fun ob => cell_alloc d2 ob; have a3 := fun ob => cell_alloc d3 ob; have a4 := fun ob => cell_alloc d4 ob; have a5 := fun ob => cell_alloc d5 ob; have Hb5 := Lib.hid hb5; clear hb5))
   go_ret
   exact ⟨by rw [Hm.out]; rfl, (bthen Hb1.out Hb5.out).alloc (by have := Hb1.out.size; have := Hb5.out.size; omega) _⟩
 ·have hm : mayO o = false := by
   unfold mayO
   rw [decide_eq_false hk]
   rfl
  have hc := unshaped_calls o.kind hk w1
  obtain ⟨c0, _, _, _, _, _, cf⟩ := op_cells hrow
  have Hc := Lib.hid hc; have Hb1 := Lib.hid hb1; have Hm := Lib.hid hm; have Hw1 := Lib.hid hw1
  clear hc hb1 hm hw1 hrow hk
  go_enter Tryz.func107, Tryz.ntmps107
  go_upto_region 1 with (fail)
  rw [Hw1.out]
  go_wp2_with (go_at_call 154; ((with_reducible refine (Hc.out).mono ?_); rintro e w5 ⟨rfl, hb5⟩; have Hb5 := Lib.hid hb5; clear hb5))
  go_ret
  exact ⟨by rw [Hm.out]; rfl, (bthen Hb1.out Hb5.out).alloc (by have := Hb1.out.size; have := Hb5.out.size; omega) _⟩
end Go.Proofs.YtmbhkkophkccbaaGreat.OpMay
end
section
namespace Go.Proofs.YtmbhkkophkccbaaGreat.Doings
open Go Go.RowKit Go.Proofs.YtmbhkkophkccbaaGreat.Seq WS FS Mem Rd
set_option linter.unusedVariables false
set_option linter.unusedSimpArgs false

def mkV (x : Int × Value × Nat) : MapEntry := { key := .int .i64 x.1, val := x.2.1, born := x.2.2 }
def ixV (k : Int) : List (Int × Value × Nat) → Nat → Option (Nat × Value)
 | [], _ => none
 | x :: es, i => if k = x.1 then some (i, x.2.1) else ixV k es (i + 1)
theorem findNow_mkV {d : TypeDesc} (hd : ∀ a b, Instr.sameNow d (.int .i64 a) (.int .i64 b) = some (decide (a = b))) (k : Int) : ∀ (es : List (Int × Value × Nat)) (i : Nat), Instr.findNow d (.int .i64 k) (es.map mkV) i = some (ixV k es i)
 | [], i => rfl
 | x :: es, i => by
  rw [List.map_cons, Instr.findNow]
  have : Instr.sameNow d (.int .i64 k) (mkV x).key = some (decide (k = x.1)) := hd _ _
  rw [this]
  by_cases h : k = x.1
  ·rw [decide_eq_true h]; simp only [ixV, if_pos h]; rfl
  ·rw [decide_eq_false h]; simp only [ixV, if_neg h]; exact findNow_mkV hd k es (i + 1)
theorem ixV_none {k : Int} : ∀ {es : List (Int × Value × Nat)} {i : Nat}, (∀ x ∈ es, x.1 ≠ k) → ixV k es i = none
 | [], i, _ => rfl
 | x :: es, i, h => by
  unfold ixV
  rw [if_neg (fun e => h x (by simp) e.symm)]
  exact ixV_none (fun y hy => h y (by simp [hy]))
theorem ixV_some {k : Int} {v : Value} : ∀ {es : List (Int × Value × Nat)} {i : Nat}, (es.find? (fun x => decide (k = x.1))).map (·.2.1) = some v → ∃ j, ixV k es i = some (j, v)
 | [], i, h => by cases h
 | x :: es, i, h => by
  unfold ixV
  by_cases hk : k = x.1
  ·rw [if_pos hk]
   simp [hk] at h
   exact ⟨i, by rw [h]⟩
  ·rw [if_neg hk]
   rw [List.find?_cons, decide_eq_false hk] at h
   exact ixV_some h
section
variable {P : Program} {W : World} {b c : Nat} {es : List (Int × Value × Nat)} {T kt et : TypeId}
theorem run_insert (hT : P.underlying T = some (.map kt et)) (hk : P.underlying kt = some (.int .i64)) (hb : W.heap[b]? = some (.map (es.map mkV).toArray c)) (k : Int) (v : Value) (hn : ∀ x ∈ es, x.1 ≠ k) :
  (Instr.mapUpdate T (.map (some b)) (.int .i64 k) v).run P W = .ok () (W.putObj b (.map ((es ++ [(k, v, c)]).map mkV).toArray (c + 1))) := by
 have K := int_key hk
 obtain ⟨d, hd, hn'⟩ := K.under
 have hfk : (Instr.findKey kt (.int .i64 k) (es.map mkV).toArray.toList).run P W = .ok (ixV k es 0) W := by
  simp only [Instr.findKey, Sem.run_bind, run_underlying hd, Result.andThen]
  rw [findNow_mkV hn']
  rfl
 simp only [Instr.mapUpdate, Sem.run_bind, run_underlying hT, Result.andThen, getObj, Sem.run, hb, K.chk, Sem.run_pure]
 rw [hfk, ixV_none hn]
 simp only [Result.andThen, setObj, Sem.run, hb, World.putObj]
 simp [mkV]
theorem run_lookup (hT : P.underlying T = some (.map kt et)) (hk : P.underlying kt = some (.int .i64)) (hb : W.heap[b]? = some (.map (es.map mkV).toArray c)) (k : Int) (v : Value) (hx : (es.find? (fun x => decide (k = x.1))).map (·.2.1) = some v) :
  (Instr.lookup T (.map (some b)) (.int .i64 k) false).run P W = .ok v W := by
 have K := int_key hk
 obtain ⟨d, hd, hn'⟩ := K.under
 obtain ⟨j, hj⟩ := ixV_some (i := 0) hx
 have hfk : (Instr.findKey kt (.int .i64 k) (es.map mkV).toArray.toList).run P W = .ok (ixV k es 0) W := by
  simp only [Instr.findKey, Sem.run_bind, run_underlying hd, Result.andThen]
  rw [findNow_mkV hn']
  rfl
 simp only [Instr.lookup, Sem.run_bind, run_underlying hT, Result.andThen, getObj, Sem.run, hb, K.chk, Sem.run_pure]
 rw [hfk, hj]
 simp [Result.andThen]
end
theorem store_func (w : World) (a : Addr) (m : Mode) (fn : Fn) (first cap : Array Value) : (store a (.func fn first cap) m).run Tryz.prog w = stored Tryz.prog w a (.func fn first cap) m := run_store _ w a _ m rfl
abbrev fnV (n : Nat) : Value := .func (.func n) #[] #[]
def rowsD : Nat → Array Value
 | 1 => #[.int .i64 74, fnV 159, .int .i64 2, fnV 160]
 | 2 => #[.int .i64 74, fnV 163, .int .i64 2, fnV 160]
 | 3 => #[.int .i64 74, fnV 163, .int .i64 2, fnV 160]
 | 4 => #[.int .i64 70, fnV 158, .int .i64 70, fnV 166, .int .i64 71, fnV 167, .int .i64 72, fnV 168, .int .i64 73, fnV 170]
 | 5 => #[.int .i64 70, fnV 158, .int .i64 71, fnV 175, .int .i64 3, fnV 176]
 | 6 => #[.int .i64 70, fnV 158, .int .i64 71, fnV 177, .int .i64 74, fnV 159, .int .i64 75, fnV 178]
 | 7 => #[.int .i64 70, fnV 158, .int .i64 71, fnV 177, .int .i64 75, fnV 181]
 | 8 => #[.int .i64 70, fnV 158, .int .i64 71, fnV 185, .int .i64 74, fnV 163]
 | _ => #[]
def lenD : Nat → Nat
 | 1 => 2
 | 2 => 2
 | 3 => 2
 | 4 => 5
 | 5 => 3
 | 6 => 4
 | 7 => 3
 | 8 => 3
 | _ => 0
def doD : Nat → Nat
 | 1 => 161
 | 2 => 164
 | 3 => 165
 | 4 => 171
 | 5 => 172
 | 6 => 180
 | 7 => 182
 | 8 => 187
 | _ => 0
def valD (N k : Nat) : Value := .agg #[.slice (some ⟨N + 1 + k, 0, none⟩) (lenD k) (lenD k), fnV (doD k)]
def esD (N j : Nat) : List (Int × Value × Nat) := (List.range j).map (fun i => (((i + 1 : Nat) : Int), valD N (i + 1), i))
theorem esD_succ (N j : Nat) : esD N (j + 1) = esD N j ++ [(((j + 1 : Nat) : Int), valD N (j + 1), j)] := by unfold esD; rw [List.range_succ, List.map_append]; rfl
theorem esD_ne (N j : Nat) : ∀ x ∈ esD N j, x.1 ≠ ((j + 1 : Nat) : Int) := by
 intro x hx
 unfold esD at hx
 obtain ⟨i, hi, rfl⟩ := List.mem_map.1 hx
 have := List.mem_range.1 hi
 simp only
 omega
theorem esD_find (N : Nat) : ∀ (j k : Nat), 1 ≤ k → k ≤ j → ((esD N j).find? (fun x => decide ((k : Int) = x.1))).map (·.2.1) = some (valD N k)
 | 0, k, h1, h2 => by omega
 | j + 1, k, h1, h2 => by
  rw [esD_succ, List.find?_append]
  by_cases e : k = j + 1
  ·subst e
   have : (esD N j).find? (fun x => decide (((j + 1 : Nat) : Int) = x.1)) = none := by
    rw [List.find?_eq_none]
    intro x hx
    have := esD_ne N j x hx
    simp only [decide_eq_true_eq]
    exact fun h => this h.symm
   rw [this]
   simp
  ·have ih := esD_find N j k h1 (by omega)
   cases hf : (esD N j).find? (fun x => decide ((k : Int) = x.1)) with
   | none => rw [hf] at ih; cases ih
   | some x => rw [hf] at ih; simpa using ih
structure DSt (N j : Nat) (w W : World) : Prop where
 size : W.heap.size = N + 2 + j
 below : Below N w W
 node : W.heap[N]? = some (.cells #[.int .i64 70, fnV 158] 240 (0, 0))
 map : W.heap[N + 1]? = some (.map ((esD N j).map mkV).toArray j)
 rows : ∀ k, 1 ≤ k → k ≤ j → W.heap[N + 1 + k]? = some (.cells (rowsD k) 240 (0, 0))
theorem DSt.next {N j : Nat} {w W : World} (h : DSt N j w W) : DSt N (j + 1) w ((W.alloc (.cells (rowsD (j + 1)) 240)).putObj (N + 1) (.map ((esD N (j + 1)).map mkV).toArray (j + 1))) := by
 have hs := h.size
 have hnew : (W.alloc (.cells (rowsD (j + 1)) 240)).heap[N + 2 + j]? = some (.cells (rowsD (j + 1)) 240 (0, 0)) := by rw [← hs]; exact World.alloc_heap_new W _
 refine ⟨by rw [World.putObj_size, World.size_alloc, hs]; omega, ?_, ?_, ?_, ?_⟩
 ·have h1 := h.below.alloc (by omega) (.cells (rowsD (j + 1)) 240)
  exact ⟨h1.os, h1.tape, h1.output, by rw [World.putObj_size]; exact h1.size, fun k hk => (World.putObj_heap_other (by omega)).trans (h1.block k hk)⟩
 ·exact (World.putObj_heap_other (by omega)).trans (heap_old h.node)
 ·exact World.putObj_heap_same (by rw [World.size_alloc]; omega)
 ·intro k h1 h2
  refine (World.putObj_heap_other (by omega)).trans ?_
  by_cases e : k = j + 1
  ·subst e
   rw [show N + 1 + (j + 1) = N + 2 + j by omega]
   exact hnew
  ·exact heap_old (h.rows k h1 (by omega))
theorem wpList_put {ops : Array Oper} {rest : List Oper} {o : Oper} {a : Act} {Q : Exit → Act → World → Prop} {N j : Nat} {w W : World} (hg : o.guard = none) (m k v : Operand) (ho : o.op = .insert 184 m k v) (hd : o.dst = none)
  (hm : a.eval m = .map (some (N + 1))) (hk : a.eval k = .int .i64 ((j + 1 : Nat) : Int)) (hv : a.eval v = valD N (j + 1)) (hD : DSt N j w W)
  (h : ∀ W2, DSt N (j + 1) w W2 → wpList Tryz.prog ops Q rest a W2) : wpList Tryz.prog ops Q (o :: rest) a (W.alloc (.cells (rowsD (j + 1)) 240)) := by
 refine wpList_plain hg fun K hK => ?_
 have hr := run_insert (P := Tryz.prog) (T := 184) (W := W.alloc (.cells (rowsD (j + 1)) 240)) Tryz.underlying184 Tryz.underlying3 (heap_old hD.map) ((j + 1 : Nat) : Int) (valD N (j + 1)) (esD_ne N j)
 rw [← esD_succ] at hr
 unfold Oper.wp
 simp only [execOp, ho, hm, hk, hv, hr, Sem.run_bind, Result.andThen_ok, Sem.run_pure]
 have h2 := h _ hD.next
 refine hK _ _ ?_
 rw [hd]
 exact h2
theorem DSt.facts {N j : Nat} {w W : World} (h : DSt N j w W) : W.heap.size = N + 2 + j ∧ W.cell? ⟨N, 0, none⟩ = some (.int .i64 70) ∧ W.cell? ⟨N, 1, none⟩ = some (fnV 158) :=
 ⟨h.size, (cell_of_row _ _ _ _ _ _ h.node).trans rfl, (cell_of_row _ _ _ _ _ _ h.node).trans rfl⟩
def DoingsPost (w : World) (e : Ending) (w' : World) : Prop := e = .returned (.map (some (w.heap.size + 1))) ∧ DSt w.heap.size 8 w w'
set_option maxRecDepth 100000 in
set_option maxHeartbeats 8000000 in
theorem doings_calls (w : World) : Calls Tryz.prog 109 #[] w (DoingsPost w) := by
 obtain ⟨N, hN⟩ : ∃ N, N = w.heap.size := ⟨_, rfl⟩
 have hD : DSt N 0 w ((w.alloc (.cells #[.int .i64 70, fnV 158] 240)).alloc (.map #[] 0)) := by
  refine ⟨by simp [hN], ?_, ?_, ?_, fun k h1 h2 => by omega⟩
  ·exact ((Below.refl _ _).alloc (by omega) _).alloc (by simp; omega) _
  ·rw [hN]; exact heap_old (World.alloc_heap_new w _)
  ·have := World.alloc_heap_new (w.alloc (.cells #[.int .i64 70, fnV 158] 240)) (.map #[] 0)
   rw [World.size_alloc, ← hN] at this
   exact this
 obtain ⟨W0, hW0⟩ : ∃ W0, (w.alloc (.cells #[.int .i64 70, fnV 158] 240)).alloc (.map #[] 0) = W0 := ⟨_, rfl⟩
 rw [hW0] at hD
 have HN := Lib.hid hN; have HW0 := Lib.hid hW0; have HD0 := Lib.hid hD
 clear hN hW0 hD
 go_enter Tryz.func109, Tryz.ntmps109
 have hmm := @run_makeMap Tryz.prog
 have hsf := store_func
 go_upto_region 2 with (fail)
 go_step
 iterate 3 go_step
 rw [HW0.out, ← HN.out]
 clear hmm hsf HW0
 have hs0 : W0.heap.size = N + 2 := HD0.out.facts.1
 have ka0 := HD0.out.facts.2.1; have kb0 := HD0.out.facts.2.2
 iterate 12 go_step
 refine wpList_put (j := 0) rfl _ _ _ rfl rfl rfl rfl rfl HD0.out ?_
 intro W1 hD
 have HD1 := Lib.hid hD
 clear hD hs0 ka0 kb0 HD0 W0
 have hs1 : W1.heap.size = N + 3 := HD1.out.facts.1
 have ka1 := HD1.out.facts.2.1; have kb1 := HD1.out.facts.2.2
 iterate 12 go_step
 refine wpList_put (j := 1) rfl _ _ _ rfl rfl rfl rfl rfl HD1.out ?_
 intro W2 hD
 have HD2 := Lib.hid hD
 clear hD hs1 ka1 kb1 HD1 W1
 have hs2 : W2.heap.size = N + 4 := HD2.out.facts.1
 have ka2 := HD2.out.facts.2.1; have kb2 := HD2.out.facts.2.2
 iterate 12 go_step
 refine wpList_put (j := 2) rfl _ _ _ rfl rfl rfl rfl rfl HD2.out ?_
 intro W3 hD
 have HD3 := Lib.hid hD
 clear hD hs2 ka2 kb2 HD2 W2
 have hs3 : W3.heap.size = N + 5 := HD3.out.facts.1
 have ka3 := HD3.out.facts.2.1; have kb3 := HD3.out.facts.2.2
 iterate 21 go_step
 refine wpList_put (j := 3) rfl _ _ _ rfl rfl rfl rfl rfl HD3.out ?_
 intro W4 hD
 have HD4 := Lib.hid hD
 clear hD hs3 ka3 kb3 HD3 W3
 have hs4 : W4.heap.size = N + 6 := HD4.out.facts.1
 have ka4 := HD4.out.facts.2.1; have kb4 := HD4.out.facts.2.2
 iterate 15 go_step
 refine wpList_put (j := 4) rfl _ _ _ rfl rfl rfl rfl rfl HD4.out ?_
 intro W5 hD
 have HD5 := Lib.hid hD
 clear hD hs4 ka4 kb4 HD4 W4
 have hs5 : W5.heap.size = N + 7 := HD5.out.facts.1
 have ka5 := HD5.out.facts.2.1; have kb5 := HD5.out.facts.2.2
 iterate 18 go_step
 refine wpList_put (j := 5) rfl _ _ _ rfl rfl rfl rfl rfl HD5.out ?_
 intro W6 hD
 have HD6 := Lib.hid hD
 clear hD hs5 ka5 kb5 HD5 W5
 have hs6 : W6.heap.size = N + 8 := HD6.out.facts.1
 have ka6 := HD6.out.facts.2.1; have kb6 := HD6.out.facts.2.2
 iterate 15 go_step
 refine wpList_put (j := 6) rfl _ _ _ rfl rfl rfl rfl rfl HD6.out ?_
 intro W7 hD
 have HD7 := Lib.hid hD
 clear hD hs6 ka6 kb6 HD6 W6
 have hs7 : W7.heap.size = N + 9 := HD7.out.facts.1
 have ka7 := HD7.out.facts.2.1; have kb7 := HD7.out.facts.2.2
 iterate 15 go_step
 refine wpList_put (j := 7) rfl _ _ _ rfl rfl rfl rfl rfl HD7.out ?_
 intro W8 hD
 have HD8 := Lib.hid hD
 clear hD hs7 ka7 kb7 HD7 W7
 go_wp2_with fail
 go_ret
 refine ⟨by rw [← HN.out]; rfl, ?_⟩
 rw [← HN.out]
 exact HD8.out
end Go.Proofs.YtmbhkkophkccbaaGreat.Doings
end
section
namespace Go.Proofs.YtmbhkkophkccbaaGreat.Doings
open Go Go.RowKit Go.Proofs.YtmbhkkophkccbaaGreat.Seq WS FS Mem Rd Work
set_option linter.unusedVariables false
set_option linter.unusedSimpArgs false

structure Ck where
 e : Int
 K : Nat
 b : Bool
def ckRow (l : List Ck) : List Value := l.flatMap (fun x => [Value.int .i64 x.e, fnV x.K])
theorem ckRow_at : ∀ {l : List Ck} {i : Nat} (hi : i < l.length), (ckRow l)[i * 2]? = some (.int .i64 l[i].e) ∧ (ckRow l)[i * 2 + 1]? = some (fnV l[i].K)
 | [], i, hi => by cases hi
 | x :: l, 0, _ => ⟨rfl, rfl⟩
 | x :: l, i + 1, hi => by
  have := ckRow_at (l := l) (i := i) (by simpa using hi)
  have e : ckRow (x :: l) = [Value.int .i64 x.e, fnV x.K] ++ ckRow l := rfl
  rw [e, show (i + 1) * 2 = (i * 2) + 2 by omega, show (i * 2) + 2 + 1 = (i * 2 + 1) + 2 by omega]
  exact this
def firstC (l : List Ck) : Int := firstE (l.map (fun x => (x.e, x.b)))
theorem firstC_hit {l : List Ck} {k : Nat} (hk : k < l.length) (hx : l[k].b = false) (hn : ∀ j (hj : j < l.length), j < k → l[j].b = true) : firstC l = l[k].e := by
 unfold firstC firstE
 induction l generalizing k with
 | nil => cases hk
 | cons x l ih =>
  rw [List.map_cons, List.find?_cons]
  cases k with
  | zero =>
   have hx' : x.b = false := hx
   rw [hx']
   rfl
  | succ k =>
   have h0 : x.b = true := hn 0 (by simp) (by omega)
   rw [h0]
   exact ih (by simpa using hk) hx (fun j hj hjk => hn (j + 1) (by simpa using hj) (by omega))
theorem firstC_none {l : List Ck} (hn : ∀ j (hj : j < l.length), l[j].b = true) : firstC l = 0 := by
 unfold firstC firstE
 have : (l.map (fun x => (x.e, x.b))).find? (fun c => !c.2) = none := by
  rw [List.find?_eq_none]
  intro c hc
  obtain ⟨x, hx, rfl⟩ := List.mem_map.1 hc
  obtain ⟨j, hj, rfl⟩ := List.mem_iff_getElem.1 hx
  simp [hn j hj]
 rw [this]
 rfl
def FirstPost (E : Int) (w : World) (e : Ending) (w' : World) : Prop := e = .returned (.int .i64 E) ∧ Below w.heap.size w w'
set_option maxHeartbeats 2000000 in
theorem first_calls [Avoid] {base wk g c : Nat} {o : Opn} {f : Fo} (l : List Ck) (b : Nat) (w : World) (hW : Wk base wk g c o f w) (hrow : w.heap[b]? = some (.cells (ckRow l).toArray 240 (0, 0))) (hl : l.length ≤ 100)
  (heg : ∀ x ∈ l, ∀ args w, (callFunc x.K args).run Tryz.prog w = .ok (.enter x.K args) w)
  (hchk : ∀ i (hi : i < l.length), (∀ j (hj : j < l.length), j < i → l[j].b = true) → Chk l[i].K base wk g c o f l[i].b) :
  Calls Tryz.prog 110 #[.pointer (some ⟨wk, 0, none⟩), .slice (some ⟨b, 0, none⟩) l.length l.length] w (FirstPost (firstC l) w) := by
 have hcell := fun (w' : World) (hb : Below w.heap.size w w') (i : Nat) (hi : i < l.length) => (⟨(cell_of_row _ _ _ _ _ _ ((hb.block b (lt_heap hrow)).trans hrow)).trans ((List.getElem?_toArray ..).trans (ckRow_at hi).1), (cell_of_row _ _ _ _ _ _ ((hb.block b (lt_heap hrow)).trans hrow)).trans ((List.getElem?_toArray ..).trans (ckRow_at hi).2)⟩ : w'.cell? ⟨b, i * 2, none⟩ = some (.int .i64 l[i].e) ∧ w'.cell? ⟨b, i * 2 + 1, none⟩ = some (fnV l[i].K))
 have hsf := store_func
 have Hcell := Lib.hid hcell; have HW := Lib.hid hW; have Heg := Lib.hid heg; have Hchk := Lib.hid hchk
 clear hcell hW heg hchk hrow
 go_enter Tryz.func110, Tryz.ntmps110
 go_wp2_with fail
 go_loopw [9] (fun i wr => ∃ k : Nat, k ≤ l.length ∧ i = .int .i64 k ∧ Below w.heap.size w wr ∧ Hid (∀ j (hj : j < l.length), j < k → l[j].b = true)) (fun i _ => l.length - (intOf i).toNat)
 case atStart => exact ⟨0, Nat.zero_le _, rfl, Below.refl _ _, Lib.hid (fun j _ h => absurd h (Nat.not_lt_zero _))⟩
 case round =>
  obtain ⟨k, hk, rfl, hb, hn⟩ := hrel
  by_cases hlt : k < l.length
  ·obtain ⟨e0, e1⟩ := Hcell.out wr hb k hlt
   have hst := Hchk.out k hlt hn.out
   have heg := Heg.out l[k] (List.getElem_mem hlt)
   have Hb := Lib.hid hb
   have hs := hb.size
   obtain ⟨w1, hw1⟩ : ∃ w1, wr.alloc (.cells #[.int .i64 l[k].e, fnV l[k].K] 240) = w1 := ⟨_, rfl⟩
   have hb1 : Below w.heap.size w w1 := by rw [← hw1]; exact hb.alloc hs _
   have hc := hst w1 (HW.out.below hb1)
   have hrow1 : w1.heap[wr.heap.size]? = some (.cells #[.int .i64 l[k].e, fnV l[k].K] 240 (0, 0)) := by rw [← hw1]; exact World.alloc_heap_new wr _
   have q0 : w1.cell? ⟨wr.heap.size, 0, none⟩ = some (.int .i64 l[k].e) := (cell_of_row _ _ _ _ _ _ hrow1).trans rfl
   have q1 : w1.cell? ⟨wr.heap.size, 1, none⟩ = some (fnV l[k].K) := (cell_of_row _ _ _ _ _ _ hrow1).trans rfl
   have Hb1 := Lib.hid hb1; have Hw1 := Lib.hid hw1; have Hc := Lib.hid hc; have Hq0 := Lib.hid q0
   have hhit := fun (hx : l[k].b = false) => firstC_hit hlt hx hn.out
   have hn2 := fun (hx : l[k].b = true) (j : Nat) (hj : j < l.length) (hjk : j < k + 1) => (show l[j].b = true from by
    by_cases e : j = k
    ·subst e; exact hx
    ·exact hn.out j hj (by omega))
   have Hhit := Lib.hid hhit; have Hn2 := Lib.hid hn2
   clear hst hb hb1 hw1 hc hrow1 hhit hn2 q0
   generalize l[k].e = ek at *
   generalize l[k].K = Kk at *
   generalize l[k].b = bk at *
   go_upto_region 4 with (fail)
   rw [Hw1.out]
   clear e0 e1 hsf
   cases bk with
   | true =>
    go_wp2_with (((with_reducible refine (Hc.out).mono ?_); rintro e w5 ⟨rfl, hb5⟩; have q5 := cell_grow hb5 Hq0.out; have Hb5 := Lib.hid hb5; clear hb5))
    go_roundw
    case rel => exact ⟨k + 1, by omega, by go_num, bthen Hb1.out Hb5.out, Lib.hid (Hn2.out (by trivial))⟩
    case measure => simp [intOf]; omega
   | false =>
    go_wp2_with (((with_reducible refine (Hc.out).mono ?_); rintro e w5 ⟨rfl, hb5⟩; have q5 := cell_grow hb5 Hq0.out; have Hb5 := Lib.hid hb5; clear hb5))
    go_ret
    exact ⟨ret_i (Hhit.out (by trivial)).symm, bthen Hb1.out Hb5.out⟩
  ·have hr := firstC_none (l := l) (fun j hj => hn.out j hj (by omega))
   have Hr := Lib.hid hr; have Hb := Lib.hid hb
   clear hr hb
   go_wp2_with fail
   go_ret
   exact ⟨ret_i Hr.out.symm, Hb.out⟩
end Go.Proofs.YtmbhkkophkccbaaGreat.Doings
end
section
namespace Go.Proofs.YtmbhkkophkccbaaGreat.Work
open Go Go.RowKit Go.Proofs.YtmbhkkophkccbaaGreat.Seq WS FS Mem Rd Shapes Word FFam OwnF FAttr
set_option linter.unusedVariables false
set_option linter.unusedSimpArgs false

theorem IndexFuncA_calls (w : World) (v : Value) (l : List Av) (h : RdL attrE 2 w.heap.size w v l) (p : Av → Bool) (bx : Value)
  (hp : ∀ w', Below w.heap.size w w' → ∀ a : Av, Calls Tryz.prog 216 #[.agg #[.string a.name, .string a.value], bx] w' fun e w'' => e = .returned (.bool (p a)) ∧ Below w'.heap.size w' w'') :
  Calls Tryz.prog 138 #[v, .func (.func 216) #[] #[bx]] w fun e w' => e = .returned (.int .i64 (idxP l p)) ∧ Below w.heap.size w w' := by
 have HR := Lib.hid (fun w' hb => h.below attrE_keeps (w' := w') hb (Nat.le_refl _))
 obtain ⟨A0, c0, rfl, hl0, hc0, _⟩ := h.form
 simp only [maxLen] at hc0
 have Hp := Lib.hid hp
 clear h hp
 go_enter Tryz.func138, Tryz.ntmps138
 go_wp2_with fail
 go_loopw [8] (fun i wr => ∃ k : Nat, k ≤ l.length ∧ i = .int .i64 k ∧ Below w.heap.size w wr ∧ Hid (∀ j (hj : j < l.length), j < k → p l[j] = false)) (fun i _ => l.length - (intOf i).toNat)
 case atStart => exact ⟨0, Nat.zero_le _, rfl, Below.refl _ _, Lib.hid (fun j _ h => absurd h (Nat.not_lt_zero _))⟩
 case round =>
  obtain ⟨k, hk, rfl, hb, hn⟩ := hrel
  by_cases hlt : k < l.length
  ·obtain ⟨b, o, rfl, hbl, g0, g1, m0, m1⟩ := attr_at (HR.out _ hb) hlt
   have hc := Hp.out wr hb l[k]
   have Hb := Lib.hid hb
   cases hx : p l[k] with
   | true =>
    rw [hx] at hc
    have hr := idxP_hit hlt hx hn.out
    have Hr := Lib.hid hr; have Hc := Lib.hid hc
    clear hr hx hc hb m0 m1
    generalize l[k] = a at *
    go_wp2_with (go_at_call 216; (with_reducible refine (Hc.out).mono ?_); rintro e w5 ⟨rfl, hb5⟩; have Hb5 := Lib.hid hb5; clear hb5)
    go_ret
    exact ⟨ret_i Hr.out.symm, bthen Hb.out Hb5.out⟩
   | false =>
    rw [hx] at hc
    have hn2 : ∀ j (hj : j < l.length), j < k + 1 → p l[j] = false := fun j hj hjk => by
     by_cases e : j = k
     ·subst e; exact hx
     ·exact hn.out j hj (by omega)
    have Hn2 := Lib.hid hn2; have Hc := Lib.hid hc
    clear hn2 hx hc hb m0 m1
    generalize l[k] = a at *
    go_wp2_with (go_at_call 216; (with_reducible refine (Hc.out).mono ?_); rintro e w5 ⟨rfl, hb5⟩; have Hb5 := Lib.hid hb5; clear hb5)
    go_roundw
    case rel => exact ⟨k + 1, by omega, by go_num, bthen Hb.out Hb5.out, Hn2⟩
    case measure => simp [intOf]; omega
  ·have hr := idxP_none (l := l) (p := p) (fun j hj => hn.out j hj (by omega))
   have Hr := Lib.hid hr; have Hb := Lib.hid hb
   clear hr hb
   go_wp2_with fail
   go_ret
   exact ⟨ret_i Hr.out.symm, Hb.out⟩
section
variable [Avoid] {base wk g c : Nat} {o : Opn} {f : Fo}
end
section
variable {base wk g c : Nat} {o : Opn} {f : Fo}
theorem attr1_calls (w : World) (nm : ByteArray) (bx : Nat) (c5 : w.cell? ⟨wk, 5, none⟩ = some (.string nm)) (hb : w.cell? ⟨bx, 0, none⟩ = some (.pointer (some ⟨wk, 0, none⟩))) (a : Av) :
  Calls Tryz.prog 216 #[.agg #[.string a.name, .string a.value], .pointer (some ⟨bx, 0, none⟩)] w fun e w' => e = .returned (.bool (decide (a.name = nm))) ∧ Below w.heap.size w w' := by
 obtain ⟨an, av⟩ := a
 simp only
 have d5 := fun w' (h : Below w.heap.size w w') => cell_grow h c5
 have d0 := fun w' (h : Below w.heap.size w w') => cell_grow h hb
 go_enter Tryz.func216, Tryz.ntmps216
 go_wp2_with fail
 obtain ⟨w1, hw1⟩ : ∃ w1, w.alloc (.cells #[.string an, .string av] 112) = w1 := ⟨_, rfl⟩
 have hb1 : Below w.heap.size w w1 := by rw [← hw1]; exact (Below.refl _ _).alloc (Nat.le_refl _) _
 have p0 := d0 _ hb1
 have p5 := d5 _ hb1
 have q : w1.cell? ⟨w.heap.size, 0, none⟩ = some (.string an) := by rw [← hw1]; exact (cell_of_row _ _ _ _ _ _ (World.alloc_heap_new _ _)).trans rfl
 have Hb1 := Lib.hid hb1
 rw [hw1]
 clear d0 d5 hb1 hw1 c5 hb
 obtain ⟨B, hB⟩ : ∃ B, B = w.heap.size := ⟨_, rfl⟩
 rw [← hB] at q ⊢
 have HB := Lib.hid hB
 clear hB
 go_quiet (fail)
 go_wp2_with fail
 go_ret
 exact ⟨ret_bool (FSame.str_beq _ _), HB.out ▸ drewN_below (HB.out ▸ Hb1.out) _⟩
end
section
variable [Avoid] {base wk g c : Nat} {o : Opn} {f : Fo}
theorem Wk.c5 {w : World} (h : Wk base wk g c o f w) : w.cell? ⟨wk, 5, none⟩ = some (.string o.name) := h.cells.2.2.2.2.2.1
abbrev nameP (o : Opn) : Av → Bool := fun a => decide (a.name = o.name)
theorem attribute_calls (w : World) (h : Wk base wk g c o f w) (hi : isNode f o.id = true) : Calls Tryz.prog 179 #[.pointer (some ⟨wk, 0, none⟩)] w fun e w' => e = .returned (.int .i64 (idxP (at_ f o.id).attrs (nameP o))) ∧ Below w.heap.size w w' := by
 obtain ⟨va, vk, _, _, _, k3, _, _, ra, _⟩ := h.node hi
 have hn := fun w' (hb : Below w.heap.size w w') => node_calls w' (h.below hb) hi
 have h3 := fun w' (hb : Below w.heap.size w w') => cell_grow hb k3
 have hx := fun w' (hb : Below w.heap.size w w') bx (hbx : w'.cell? ⟨bx, 0, none⟩ = some (.pointer (some ⟨wk, 0, none⟩))) =>
  IndexFuncA_calls w' va _ (ra.keep (fun b _ hl => hb.block b hl) hb.size (fun b x _ => x)).rd (nameP o) (.pointer (some ⟨bx, 0, none⟩)) (fun w'' hb2 a => attr1_calls w'' o.name bx (h.below (bthen hb hb2)).c5 (cell_grow hb2 hbx) a)
 obtain ⟨Aa, ca, rfl, _, _⟩ := ra.form
 have Hn := Lib.hid hn; have H3 := Lib.hid h3; have Hx := Lib.hid hx
 generalize idxP (at_ f o.id).attrs (nameP o) = ix at *
 generalize (at_ f o.id).attrs.length = na at *
 clear hn h3 hx h hi ra k3
 go_enter Tryz.func179, Tryz.ntmps179
 go_wp2_with fail
 obtain ⟨bx, hbx⟩ : ∃ bx, bx = w.heap.size := ⟨_, rfl⟩
 obtain ⟨w1, hw1⟩ : ∃ w1, w.alloc (.cells #[.pointer (some ⟨wk, 0, none⟩)] 176) = w1 := ⟨_, rfl⟩
 have hb1 : Below w.heap.size w w1 := by rw [← hw1]; exact (Below.refl _ _).alloc (Nat.le_refl _) _
 have q : w1.cell? ⟨bx, 0, none⟩ = some (.pointer (some ⟨wk, 0, none⟩)) := by rw [← hw1, hbx]; exact (cell_of_row _ _ _ _ _ _ (World.alloc_heap_new _ _)).trans rfl
 have hn1 := Hn.out _ hb1
 have Hn1 := Lib.hid hn1; have Hb1 := Lib.hid hb1; have Hq := Lib.hid q
 rw [hw1, ← hbx]
 clear hn1 hb1 hw1 hbx Hn
 go_wp2_with (first
  | (go_at_call 173; (with_reducible refine (Hn1.out).mono ?_); rintro e w5 ⟨rfl, n5, rfl⟩; have hb5 := drewN_below Hb1.out n5; have p3 := H3.out _ hb5; have q5 := cell_grow (drewN_below (Below.refl _ w1) n5) Hq.out; have Hb5 := Lib.hid hb5; clear hb5)
  | (go_at_call 138; (with_reducible refine (Hx.out _ Hb5.out bx q5).mono ?_); rintro e w6 ⟨rfl, hb6⟩; have Hb6 := Lib.hid hb6; clear hb6))
 go_ret
 exact ⟨rfl, bthen Hb5.out Hb6.out⟩
end
section
variable {base wk g c : Nat} {o : Opn} {f : Fo}
theorem hasA_any : hasA f o = decide (0 ≤ idxP (at_ f o.id).attrs (nameP o)) := by
 rw [idxP_any]
 unfold hasA findA
 rw [List.findIdx?_isSome]
end
section
variable [Avoid] {base wk g c : Nat} {o : Opn} {f : Fo}
theorem has_chk (hi : isNode f o.id = true) : Chk 181 base wk g c o f (hasA f o) := by
 intro w h
 have ha := attribute_calls w h hi
 rw [hasA_any]
 generalize idxP (at_ f o.id).attrs (nameP o) = ix at *
 have Ha := Lib.hid ha
 clear ha h hi
 go_enter Tryz.func181, Tryz.ntmps181
 go_wp2_with (go_at_call 179; (with_reducible refine (Ha.out).mono ?_); rintro e w5 ⟨rfl, hb5⟩; have Hb5 := Lib.hid hb5; clear hb5)
 go_ret
 exact ⟨rfl, Hb5.out⟩
theorem sets_chk (hi : isNode f o.id = true) : Chk 178 base wk g c o f (hasA f o || decide ((at_ f o.id).attrs.length < 8)) := by
 intro w h
 have ha := attribute_calls w h hi
 obtain ⟨va, vk, _, _, _, k3, _, _, ra, _⟩ := h.node hi
 have hn := fun w' (hb : Below w.heap.size w w') => node_calls w' (h.below hb) hi
 have h3 := fun w' (hb : Below w.heap.size w w') => cell_grow hb k3
 obtain ⟨Aa, ca, rfl, hca, hcm⟩ := ra.form
 simp only [maxLen] at hcm
 rw [hasA_any]
 generalize idxP (at_ f o.id).attrs (nameP o) = ix at *
 have hna : decide ((at_ f o.id).attrs.length < 8) = decide (((at_ f o.id).attrs.length : Int) < 8) := by rw [Bool.eq_iff_iff]; simp; omega
 rw [hna]
 generalize (at_ f o.id).attrs.length = na at *
 have Ha := Lib.hid ha; have Hn := Lib.hid hn; have H3 := Lib.hid h3
 clear ha h hi hn h3 k3 hna ra
 cases hd : decide (0 ≤ ix) with
 | true =>
  go_enter Tryz.func178, Tryz.ntmps178
  go_wp2_with (go_at_call 179; (with_reducible refine (Ha.out).mono ?_); rintro e w5 ⟨rfl, hb5⟩; have Hb5 := Lib.hid hb5; clear hb5)
  go_ret
  exact ⟨by simp, Hb5.out⟩
 | false =>
  go_enter Tryz.func178, Tryz.ntmps178
  go_wp2_with (first
   | (go_at_call 179; (with_reducible refine (Ha.out).mono ?_); rintro e w5 ⟨rfl, hb5⟩; have Hb5 := Lib.hid hb5; clear hb5)
   | (go_at_call 173; (with_reducible refine (Hn.out _ Hb5.out).mono ?_); rintro e w6 ⟨rfl, n6, rfl⟩; have hb6 := drewN_below Hb5.out n6; have p3 := H3.out _ hb6; have Hb6 := Lib.hid hb6; clear hb6))
  go_ret
  exact ⟨by simp, Hb6.out⟩
end
end Go.Proofs.YtmbhkkophkccbaaGreat.Work
end
section
namespace Go.Proofs.YtmbhkkophkccbaaGreat.FNew
open Go Go.RowKit Go.Proofs.YtmbhkkophkccbaaGreat.Seq WS FS Mem Rd Shapes
set_option linter.unusedVariables false
set_option linter.unusedSimpArgs false
def newF : Fo := [{ parent := -1 }]
theorem New_calls (w : World) : Calls Tryz.prog 44 #[] w fun e w' => ∃ v, e = .returned v ∧ RdF w'.heap.size w' v newF ∧ Below w.heap.size w w' := by
 go_enter Tryz.func44, Tryz.ntmps44
 go_wp2_with fail
 go_ret
 refine ⟨_, rfl, ?_, (Below.refl _ _).alloc (Nat.le_refl _) _⟩
 have h0 := World.ownsRow_lit (base := w.heap.size) (e := 50) (size := 6) w #[.int .i64 0, .string ⟨#[]⟩, .string ⟨#[]⟩, .slice none 0 0, .int .i64 (-1), .slice none 0 0] 1 (Nat.le_refl _) (by simp [maxLen]) rfl
 refine RdL.of_own (l := newF) h0 rfl (fun g hg => (h0.lt g hg).2) (fun i hi => ?_)
 have : i = 0 := by have : i < 1 := hi; omega
 subst this
 exact ⟨.slice none 0 0, .slice none 0 0, rfl, RdL.nil, RdL.nil, show (0 : Nat) ≤ maxLen by decide, show (0 : Nat) ≤ maxLen by decide, show (Lit.int .i64 0).wf = true by decide, show (Lit.int .i64 (-1)).wf = true by decide⟩
end Go.Proofs.YtmbhkkophkccbaaGreat.FNew
end
section
namespace Go.Proofs.YtmbhkkophkccbaaGreat.LShown
open Go Go.RowKit Go.Proofs.YtmbhkkophkccbaaGreat.Seq WS FS Mem Rd Shapes Word
set_option linter.unusedVariables false
set_option linter.unusedSimpArgs false
theorem lit_kids (w : World) (B b : Nat) (l : List Int) (hb : w.heap[b]? = some (.cells (l.map (Value.int .i64)).toArray 3 (0, 0))) (hB : b < B) (hl : l.length ≤ maxLen) (hw : ∀ x ∈ l, (Lit.int .i64 x).wf = true) : RdL (intE .i64) 1 B w (.slice (some ⟨b, 0, none⟩) l.length l.length) l := by
 refine ⟨_, _, rfl, Nat.le_refl _, hl, fun h0 => ⟨b, 0, rfl, hB, fun i hi => ⟨[.int .i64 l[i]], rfl, fun j u hj => ?_, rfl, hw _ (List.getElem_mem _)⟩⟩⟩
 have hj0 : j = 0 := by have := (List.getElem?_eq_some_iff.1 hj).1; simp at this; omega
 subst hj0
 simp at hj
 subst hj
 rw [cell_of_row _ _ _ _ _ _ hb]
 simp [hi]
theorem six {a b c d e f u : Value} {L : List Value} {j : Nat} (o : Nat) (hj : [a, b, c, d, e, f][j]? = some u) (hL : L.drop o = [a, b, c, d, e, f] ++ L.drop (o + 6)) {k : Nat} (hk : k = o + j := by simp) : L.toArray[k]? = some u := by
 subst hk
 rw [List.getElem?_toArray, ← List.getElem?_drop, hL]
 exact List.getElem?_append_left (List.getElem?_eq_some_iff.1 hj).1 ▸ hj
theorem new1_rd (w : World) (b : Nat) (h : w.heap[b]? = some (.cells #[.int .i64 0, .string ⟨#[]⟩, .string ⟨#[]⟩, .slice none 0 0, .int .i64 (-1), .slice none 0 0] 50 (0, 0))) : RdF w.heap.size w (.slice (some ⟨b, 0, none⟩) 1 1) FNew.newF := by
 have l1 := lt_heap h
 refine ⟨_, 1, rfl, by decide, by decide, fun h0 => ⟨b, 0, rfl, l1, fun i hi => ?_⟩⟩
 have : i = 0 := by have : i < 1 := hi; omega
 subst this
 exact ⟨[.int .i64 0, .string ⟨#[]⟩, .string ⟨#[]⟩, .slice none 0 0, .int .i64 (-1), .slice none 0 0], rfl, fun j u hj => by rw [cell_of_row _ _ _ _ _ _ h]; exact six 0 hj (by simp), _, _, rfl, RdL.nil, RdL.nil, show (0 : Nat) ≤ maxLen by decide, show (0 : Nat) ≤ maxLen by decide, show (Lit.int .i64 0).wf = true by decide, show (Lit.int .i64 (-1)).wf = true by decide⟩
theorem slice_of {w : World} {base : Nat} {e : TypeId} {sz n : Nat} {v : Value} {xs : List Value} (h : w.ownsRow base e sz v n xs) : ∃ A c, v = .slice A n c := by
 rcases h.2 with ⟨rfl, rfl⟩ | ⟨g, cap, cur, rfl, _⟩
 ·exact ⟨_, _, rfl⟩
 ·exact ⟨_, _, rfl⟩
theorem new1_calls (w : World) : Calls Tryz.prog 44 #[] w fun e w' => ∃ A c, e = .returned (.slice A 1 c) ∧ RdF w'.heap.size w' (.slice A 1 c) FNew.newF ∧ Below w.heap.size w w' := by
 refine (FNew.New_calls w).mono ?_
 rintro e w' ⟨v, rfl, hr, hb⟩
 obtain ⟨A, c, rfl, _, _, hr'⟩ := hr.form
 exact ⟨A, c, rfl, hr', hb⟩
end Go.Proofs.YtmbhkkophkccbaaGreat.LShown
end
