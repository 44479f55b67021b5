import Derived.Test.YtmbhkkophkccbaaGreatC27
import Derived.Test.YtmbhkkophkccbaaGreatC09
import Derived.Test.YtmbhkkophkccbaaGreatC25
import Derived.Test.YtmbhkkophkccbaaGreatC08
import Derived.Test.YtmbhkkophkccbaaGreatC14
import Derived.Test.YtmbhkkophkccbaaGreatC24
section
namespace Go.Proofs.YtmbhkkophkccbaaGreat.Sn
open Go Go.RowKit Go.Proofs.YtmbhkkophkccbaaGreat.Seq WS FS Mem Rd Shapes Word FFam Wk Fn Pa Hs Doings
set_option linter.unusedVariables false
set_option linter.unusedSimpArgs false
noncomputable def ofA (f : Fo) (q : Qy) : An := if 1 ≤ q.kind ∧ q.kind ≤ 9 then ofK f q q.kind.toNat else { e := 1 }
def fidS : Nat → Nat
 | 1 => 62
 | 2 => 65
 | 3 => 68
 | 4 => 70
 | 5 => 71
 | 6 => 74
 | 7 => 76
 | 8 => 78
 | 9 => 80
 | _ => 0
def valS (bf bq k : Nat) : Value := .func (.func (fidS k)) #[] #[.pointer (some ⟨bf, 0, none⟩), .pointer (some ⟨bq, 0, none⟩)]
def esS (bf bq j : Nat) : List (Int × Value × Nat) := (List.range j).map (fun i => (((i + 1 : Nat) : Int), valS bf bq (i + 1), i))
theorem esS_succ (bf bq j : Nat) : esS bf bq (j + 1) = esS bf bq j ++ [(((j + 1 : Nat) : Int), valS bf bq (j + 1), j)] := by unfold esS; rw [List.range_succ, List.map_append]; rfl
theorem esS_ne (bf bq j : Nat) (k : Int) (h : k < 1 ∨ (j : Int) < k) : ∀ x ∈ esS bf bq j, x.1 ≠ k := by
 intro x hx
 unfold esS at hx
 obtain ⟨i, hi, rfl⟩ := List.mem_map.1 hx
 have := List.mem_range.1 hi
 simp only
 omega
theorem esS_find (bf bq : Nat) : ∀ (j k : Nat), 1 ≤ k → k ≤ j → ((esS bf bq j).find? (fun x => decide ((k : Int) = x.1))).map (·.2.1) = some (valS bf bq k)
 | 0, k, h1, h2 => by omega
 | j + 1, k, h1, h2 => by
  rw [esS_succ, List.find?_append]
  by_cases e : k = j + 1
  ·subst e
   have : (esS bf bq j).find? (fun x => decide (((j + 1 : Nat) : Int) = x.1)) = none := by
    rw [List.find?_eq_none]
    intro x hx
    have := esS_ne bf bq j ((j + 1 : Nat) : Int) (.inr (by omega)) x hx
    simp only [decide_eq_true_eq]
    exact fun h => this h.symm
   rw [this]
   simp
  ·have ih := esS_find bf bq j k h1 (by omega)
   cases hf : (esS bf bq j).find? (fun x => decide ((k : Int) = x.1)) with
   | none => rw [hf] at ih; cases ih
   | some x => rw [hf] at ih; simpa using ih
section
variable {P : Program} {W : World} {b c : Nat} {es : List (Int × Value × Nat)} {T kt et : TypeId}
theorem run_lookup_ok (hT : P.underlying T = some (.map kt et)) (hk : P.underlying kt = some (.int .i64)) (hb : W.heap[b]? = some (.map (es.map mkV).toArray c)) (k : Int) (v : Value) (hx : (es.find? (fun x => decide (k = x.1))).map (·.2.1) = some v) :
  (Instr.lookup T (.map (some b)) (.int .i64 k) true).run P W = .ok (.tuple #[v, .bool true]) W := by
 have K := int_key hk
 obtain ⟨d, hd, hn'⟩ := K.under
 obtain ⟨j, hj⟩ := ixV_some (i := 0) hx
 have hfk : (Instr.findKey kt (.int .i64 k) (es.map mkV).toArray.toList).run P W = .ok (ixV k es 0) W := by
  simp only [Instr.findKey, Sem.run_bind, run_underlying hd, Result.andThen]
  rw [findNow_mkV hn']
  rfl
 simp only [Instr.lookup, Sem.run_bind, run_underlying hT, Result.andThen, getObj, Sem.run, hb, K.chk, Sem.run_pure]
 rw [hfk, hj]
 simp [Result.andThen]
theorem run_lookup_no (hT : P.underlying T = some (.map kt et)) (hk : P.underlying kt = some (.int .i64)) (hb : W.heap[b]? = some (.map (es.map mkV).toArray c)) (z : Value) (hz : ∀ w, (zeroValue et).run P w = .ok z w) (k : Int) (hn : ∀ x ∈ es, x.1 ≠ k) :
  (Instr.lookup T (.map (some b)) (.int .i64 k) true).run P W = .ok (.tuple #[z, .bool false]) W := by
 have K := int_key hk
 obtain ⟨d, hd, hn'⟩ := K.under
 have hfk : (Instr.findKey kt (.int .i64 k) (es.map mkV).toArray.toList).run P W = .ok (ixV k es 0) W := by
  simp only [Instr.findKey, Sem.run_bind, run_underlying hd, Result.andThen]
  rw [findNow_mkV hn']
  rfl
 simp only [Instr.lookup, Sem.run_bind, run_underlying hT, Result.andThen, getObj, Sem.run, hb, K.chk, Sem.run_pure]
 rw [hfk, ixV_none hn]
 simp [Result.andThen, hz]
end
structure MSt (bf bq M j : Nat) (w w0 W : World) : Prop where
 map : W.heap[M]? = some (.map ((esS bf bq j).map mkV).toArray j)
 size : W.heap.size = M + 1
 below : Below w.heap.size w W
 rest : ∀ b, b < M → W.heap[b]? = w0.heap[b]?
theorem MSt.next {bf bq M j : Nat} {w w0 W : World} (h : MSt bf bq M j w w0 W) (hM : w.heap.size ≤ M) :
  ∃ W', (Instr.mapUpdate 146 (.map (some M)) (.int .i64 ((j + 1 : Nat) : Int)) (valS bf bq (j + 1))).run Tryz.prog W = .ok () W' ∧ MSt bf bq M (j + 1) w w0 W' := by
 refine ⟨_, run_insert Tryz.underlying146 Tryz.underlying3 h.map _ _ (esS_ne bf bq j _ (.inr (by omega))), ?_⟩
 rw [← esS_succ]
 refine ⟨World.putObj_heap_same (by rw [h.size]; omega), by rw [World.putObj_size, h.size], ?_, fun b hb => (World.putObj_heap_other (by omega)).trans (h.rest b hb)⟩
 exact h.below.trans (Off.toBelow (Y := fun b => b = M) (Off.putObj _ _ _ rfl) h.below.size (fun b hb => by omega))
set_option maxRecDepth 100000 in
set_option maxHeartbeats 16000000 in
theorem Of_calls (w : World) (A : Option Addr) (c : Nat) (q : Qy) (f : Fo) (h : RdF w.heap.size w (.slice A f.length c) f) (hm : mayB f = true) (hq : QyOk q) (ht : q.text.size ≤ 1048576) : Calls Tryz.prog 31 #[.slice A f.length c, qyV q] w (AnsPost (ofA f q) w) := by
 obtain ⟨w0, hw0⟩ : ∃ w0, ((w.alloc (.cells #[.slice A f.length c] 29)).alloc (.cells (qyC q) 69)).alloc (.cells z3 71) = w0 := ⟨_, rfl⟩
 have f0 : w0.heap[w.heap.size]? = some (.cells #[.slice A f.length c] 29 (0, 0)) := by rw [← hw0]; exact heap_old (heap_old (World.alloc_heap_new _ _))
 have q0 : w0.heap[w.heap.size + 1]? = some (.cells (qyC q) 69 (0, 0)) := by rw [← hw0]; exact heap_old (heap_new (by simp))
 have a0 : w0.heap[w.heap.size + 1 + 1]? = some (.cells z3 71 (0, 0)) := by rw [← hw0]; exact heap_new (by simp)
 have hs0 : w0.heap.size = w.heap.size + 1 + 1 + 1 := by rw [← hw0]; simp
 have hb0 : Below w.heap.size w w0 := by rw [← hw0]; exact (((Below.refl _ _).alloc (Nat.le_refl _) _).alloc (by simp) _).alloc (by simp; omega) _
 obtain ⟨W0, hW0⟩ : ∃ W0, w0.alloc (.map #[] 0) = W0 := ⟨_, rfl⟩
 have hMw : w.heap.size + 1 + 1 < w0.heap.size := by omega
 have hD0 : MSt w.heap.size (w.heap.size + 1) w0.heap.size 0 w w0 W0 := by
  refine ⟨by rw [← hW0]; exact World.alloc_heap_new _ _, by rw [← hW0]; simp, by rw [← hW0]; exact hb0.alloc hb0.size _, fun b hb => by rw [← hW0]; exact Below.heap_alloc _ _ _ (by omega)⟩
 obtain ⟨W1, hu1, hD1⟩ := hD0.next (by omega)
 obtain ⟨W2, hu2, hD2⟩ := hD1.next (by omega)
 obtain ⟨W3, hu3, hD3⟩ := hD2.next (by omega)
 obtain ⟨W4, hu4, hD4⟩ := hD3.next (by omega)
 obtain ⟨W5, hu5, hD5⟩ := hD4.next (by omega)
 obtain ⟨W6, hu6, hD6⟩ := hD5.next (by omega)
 obtain ⟨W7, hu7, hD7⟩ := hD6.next (by omega)
 obtain ⟨W8, hu8, hD8⟩ := hD7.next (by omega)
 obtain ⟨W9, hu9, hD9⟩ := hD8.next (by omega)
 rw [← hW0] at hu1
 replace hu1 : (Instr.mapUpdate 146 (.map (some w0.heap.size)) (.int .i64 1) (.func (.func 62) #[] #[.pointer (some ⟨w.heap.size, 0, none⟩), .pointer (some ⟨w.heap.size + 1, 0, none⟩)])).run Tryz.prog (w0.alloc (.map #[] 0)) = .ok () W1 := hu1
 replace hu2 : (Instr.mapUpdate 146 (.map (some w0.heap.size)) (.int .i64 2) (.func (.func 65) #[] #[.pointer (some ⟨w.heap.size, 0, none⟩), .pointer (some ⟨w.heap.size + 1, 0, none⟩)])).run Tryz.prog W1 = .ok () W2 := hu2
 replace hu3 : (Instr.mapUpdate 146 (.map (some w0.heap.size)) (.int .i64 3) (.func (.func 68) #[] #[.pointer (some ⟨w.heap.size, 0, none⟩), .pointer (some ⟨w.heap.size + 1, 0, none⟩)])).run Tryz.prog W2 = .ok () W3 := hu3
 replace hu4 : (Instr.mapUpdate 146 (.map (some w0.heap.size)) (.int .i64 4) (.func (.func 70) #[] #[.pointer (some ⟨w.heap.size, 0, none⟩), .pointer (some ⟨w.heap.size + 1, 0, none⟩)])).run Tryz.prog W3 = .ok () W4 := hu4
 replace hu5 : (Instr.mapUpdate 146 (.map (some w0.heap.size)) (.int .i64 5) (.func (.func 71) #[] #[.pointer (some ⟨w.heap.size, 0, none⟩), .pointer (some ⟨w.heap.size + 1, 0, none⟩)])).run Tryz.prog W4 = .ok () W5 := hu5
 replace hu6 : (Instr.mapUpdate 146 (.map (some w0.heap.size)) (.int .i64 6) (.func (.func 74) #[] #[.pointer (some ⟨w.heap.size, 0, none⟩), .pointer (some ⟨w.heap.size + 1, 0, none⟩)])).run Tryz.prog W5 = .ok () W6 := hu6
 replace hu7 : (Instr.mapUpdate 146 (.map (some w0.heap.size)) (.int .i64 7) (.func (.func 76) #[] #[.pointer (some ⟨w.heap.size, 0, none⟩), .pointer (some ⟨w.heap.size + 1, 0, none⟩)])).run Tryz.prog W6 = .ok () W7 := hu7
 replace hu8 : (Instr.mapUpdate 146 (.map (some w0.heap.size)) (.int .i64 8) (.func (.func 78) #[] #[.pointer (some ⟨w.heap.size, 0, none⟩), .pointer (some ⟨w.heap.size + 1, 0, none⟩)])).run Tryz.prog W7 = .ok () W8 := hu8
 replace hu9 : (Instr.mapUpdate 146 (.map (some w0.heap.size)) (.int .i64 9) (.func (.func 80) #[] #[.pointer (some ⟨w.heap.size, 0, none⟩), .pointer (some ⟨w.heap.size + 1, 0, none⟩)])).run Tryz.prog W8 = .ok () W9 := hu9
 have hb9 := hD9.below
 have hs9 := hD9.size
 have p0 := (hD9.rest w.heap.size (by omega)).trans f0
 have p1 := (hD9.rest (w.heap.size + 1) (by omega)).trans q0
 have p2 := (hD9.rest (w.heap.size + 1 + 1) (by omega)).trans a0
 have hB9 : Bx W9 w.heap.size (w.heap.size + 1) (.slice A f.length c) q f := ⟨p0, p1, (h.below nodeE_keeps hb9 (Nat.le_refl _)).mono nodeE_keeps hb9.size⟩
 have hmap := hD9.map
 have Hw0 := Lib.hid hw0; have HW0 := Lib.hid hW0; have Hb9 := Lib.hid hb9; have Hs9 := Lib.hid hs9; have Hp2 := Lib.hid p2; have Hs0 := Lib.hid hs0; have HMw := Lib.hid hMw
 obtain ⟨x0, x1, x2⟩ := ans_cells p2
 have ff := free_of p2
 obtain ⟨y0, y1, y2, y3⟩ := qy_cells p1
 have hmm := @run_makeMap Tryz.prog
 have hmf : ∀ (fn : Fn) (first cap : Array Value) (w : World), (Instr.makeFunc fn first cap).run Tryz.prog w = .ok (.func fn first cap) w := fun _ _ _ _ => rfl
 clear hw0 hW0 hb9 hs9 p2 p1 p0 f0 q0 a0 hb0 hD0 hD1 hD2 hD3 hD4 hD5 hD6 hD7 hD8 hD9 h hs0 hMw
 have h0 : ∀ k : Nat, 1 ≤ k → k ≤ 9 → q.kind = k → ofA f q = ofK f q k := fun k h1 h9 hk => by unfold ofA; rw [if_pos (by omega), hk]; rfl
 by_cases hk : q.kind = 1
 ·have hlk := run_lookup_ok Tryz.underlying146 Tryz.underlying3 hmap (1 : Nat) _ (esS_find w.heap.size (w.heap.size + 1) 9 1 (by decide) (by decide))
  replace hlk : (Instr.lookup 146 (.map (some w0.heap.size)) (.int .i64 1) true).run Tryz.prog W9 = .ok (.tuple #[.func (.func 62) #[] #[.pointer (some ⟨w.heap.size, 0, none⟩), .pointer (some ⟨w.heap.size + 1, 0, none⟩)], .bool true]) W9 := hlk
  have hin := of1_calls W9 w.heap.size (w.heap.size + 1) A c q f hB9 hm hq ht
  rw [h0 1 (by decide) (by decide) hk]
  unfold AnsPost at hin
  generalize ofK f q 1 = a at *
  rw [hk] at y0
  have Hin := Lib.hid hin
  clear hin hmap hB9 hm hq ht h0 hk
  go_enter Tryz.func31, Tryz.ntmps31
  go_upto_region 1 with fail
  rw [Hw0.out]
  go_upto_region 2 with fail
  go_wp2_with (go_at_call 62; (with_reducible refine (Hin.out).mono ?_); rintro e w6 ⟨A6, c6, rfl, hr6, hb6, hf6⟩; have q6 := (hb6.block _ (lt_heap Hp2.out)).trans Hp2.out; obtain ⟨k0, k1, k2⟩ := ans_cells q6; have kf := free_of q6; have Hq6 := Lib.hid q6; have Hr6 := Lib.hid hr6; have Hb6 := Lib.hid (bthen Hb9.out hb6); have Hf6 := Lib.hid hf6; clear q6 hr6 hb6 hf6)
  obtain ⟨WF, hWF⟩ : ∃ WF, ((w6.setCell ⟨w.heap.size + 1 + 1, 0, none⟩ (.slice A6 a.nums.length c6)).setCell ⟨w.heap.size + 1 + 1, 1, none⟩ (.string a.text)).setCell ⟨w.heap.size + 1 + 1, 2, none⟩ (.int .i64 a.e) = WF := ⟨_, rfl⟩
  obtain ⟨qF, sF, kF, bF⟩ := ans_set Hq6.out hWF
  obtain ⟨z0, z1, z2⟩ := ans_cells qF
  rw [hWF]
  refine bodyPost_ret (v := .agg #[(.slice A6 a.nums.length c6), (.string a.text), (.int .i64 a.e)]) (by simp [results, go_sem, Tryz.results31, z0, z1, z2]) rfl ?_
  have hs9 := Hs9.out
  have hMw := HMw.out
  exact ⟨A6, c6, rfl, int_keep Hr6.out (fun b o n c e h0 => by have := Hf6.out b o n c e h0; omega) sF kF, bF _ _ Hb6.out (by omega), fun b o n c e h0 => by have := Hf6.out b o n c e h0; omega⟩
 by_cases hk : q.kind = 2
 ·have hlk := run_lookup_ok Tryz.underlying146 Tryz.underlying3 hmap (2 : Nat) _ (esS_find w.heap.size (w.heap.size + 1) 9 2 (by decide) (by decide))
  replace hlk : (Instr.lookup 146 (.map (some w0.heap.size)) (.int .i64 2) true).run Tryz.prog W9 = .ok (.tuple #[.func (.func 65) #[] #[.pointer (some ⟨w.heap.size, 0, none⟩), .pointer (some ⟨w.heap.size + 1, 0, none⟩)], .bool true]) W9 := hlk
  have hin := of2_calls W9 w.heap.size (w.heap.size + 1) A c q f hB9 hm hq ht
  rw [h0 2 (by decide) (by decide) hk]
  unfold AnsPost at hin
  generalize ofK f q 2 = a at *
  rw [hk] at y0
  have Hin := Lib.hid hin
  clear hin hmap hB9 hm hq ht h0 hk
  go_enter Tryz.func31, Tryz.ntmps31
  go_upto_region 1 with fail
  rw [Hw0.out]
  go_upto_region 2 with fail
  go_wp2_with (go_at_call 65; (with_reducible refine (Hin.out).mono ?_); rintro e w6 ⟨A6, c6, rfl, hr6, hb6, hf6⟩; have q6 := (hb6.block _ (lt_heap Hp2.out)).trans Hp2.out; obtain ⟨k0, k1, k2⟩ := ans_cells q6; have kf := free_of q6; have Hq6 := Lib.hid q6; have Hr6 := Lib.hid hr6; have Hb6 := Lib.hid (bthen Hb9.out hb6); have Hf6 := Lib.hid hf6; clear q6 hr6 hb6 hf6)
  obtain ⟨WF, hWF⟩ : ∃ WF, ((w6.setCell ⟨w.heap.size + 1 + 1, 0, none⟩ (.slice A6 a.nums.length c6)).setCell ⟨w.heap.size + 1 + 1, 1, none⟩ (.string a.text)).setCell ⟨w.heap.size + 1 + 1, 2, none⟩ (.int .i64 a.e) = WF := ⟨_, rfl⟩
  obtain ⟨qF, sF, kF, bF⟩ := ans_set Hq6.out hWF
  obtain ⟨z0, z1, z2⟩ := ans_cells qF
  rw [hWF]
  refine bodyPost_ret (v := .agg #[(.slice A6 a.nums.length c6), (.string a.text), (.int .i64 a.e)]) (by simp [results, go_sem, Tryz.results31, z0, z1, z2]) rfl ?_
  have hs9 := Hs9.out
  have hMw := HMw.out
  exact ⟨A6, c6, rfl, int_keep Hr6.out (fun b o n c e h0 => by have := Hf6.out b o n c e h0; omega) sF kF, bF _ _ Hb6.out (by omega), fun b o n c e h0 => by have := Hf6.out b o n c e h0; omega⟩
 by_cases hk : q.kind = 3
 ·have hlk := run_lookup_ok Tryz.underlying146 Tryz.underlying3 hmap (3 : Nat) _ (esS_find w.heap.size (w.heap.size + 1) 9 3 (by decide) (by decide))
  replace hlk : (Instr.lookup 146 (.map (some w0.heap.size)) (.int .i64 3) true).run Tryz.prog W9 = .ok (.tuple #[.func (.func 68) #[] #[.pointer (some ⟨w.heap.size, 0, none⟩), .pointer (some ⟨w.heap.size + 1, 0, none⟩)], .bool true]) W9 := hlk
  have hin := of3_calls W9 w.heap.size (w.heap.size + 1) A c q f hB9 hm hq ht
  rw [h0 3 (by decide) (by decide) hk]
  unfold AnsPost at hin
  generalize ofK f q 3 = a at *
  rw [hk] at y0
  have Hin := Lib.hid hin
  clear hin hmap hB9 hm hq ht h0 hk
  go_enter Tryz.func31, Tryz.ntmps31
  go_upto_region 1 with fail
  rw [Hw0.out]
  go_upto_region 2 with fail
  go_wp2_with (go_at_call 68; (with_reducible refine (Hin.out).mono ?_); rintro e w6 ⟨A6, c6, rfl, hr6, hb6, hf6⟩; have q6 := (hb6.block _ (lt_heap Hp2.out)).trans Hp2.out; obtain ⟨k0, k1, k2⟩ := ans_cells q6; have kf := free_of q6; have Hq6 := Lib.hid q6; have Hr6 := Lib.hid hr6; have Hb6 := Lib.hid (bthen Hb9.out hb6); have Hf6 := Lib.hid hf6; clear q6 hr6 hb6 hf6)
  obtain ⟨WF, hWF⟩ : ∃ WF, ((w6.setCell ⟨w.heap.size + 1 + 1, 0, none⟩ (.slice A6 a.nums.length c6)).setCell ⟨w.heap.size + 1 + 1, 1, none⟩ (.string a.text)).setCell ⟨w.heap.size + 1 + 1, 2, none⟩ (.int .i64 a.e) = WF := ⟨_, rfl⟩
  obtain ⟨qF, sF, kF, bF⟩ := ans_set Hq6.out hWF
  obtain ⟨z0, z1, z2⟩ := ans_cells qF
  rw [hWF]
  refine bodyPost_ret (v := .agg #[(.slice A6 a.nums.length c6), (.string a.text), (.int .i64 a.e)]) (by simp [results, go_sem, Tryz.results31, z0, z1, z2]) rfl ?_
  have hs9 := Hs9.out
  have hMw := HMw.out
  exact ⟨A6, c6, rfl, int_keep Hr6.out (fun b o n c e h0 => by have := Hf6.out b o n c e h0; omega) sF kF, bF _ _ Hb6.out (by omega), fun b o n c e h0 => by have := Hf6.out b o n c e h0; omega⟩
 by_cases hk : q.kind = 4
 ·have hlk := run_lookup_ok Tryz.underlying146 Tryz.underlying3 hmap (4 : Nat) _ (esS_find w.heap.size (w.heap.size + 1) 9 4 (by decide) (by decide))
  replace hlk : (Instr.lookup 146 (.map (some w0.heap.size)) (.int .i64 4) true).run Tryz.prog W9 = .ok (.tuple #[.func (.func 70) #[] #[.pointer (some ⟨w.heap.size, 0, none⟩), .pointer (some ⟨w.heap.size + 1, 0, none⟩)], .bool true]) W9 := hlk
  have hin := of4_calls W9 w.heap.size (w.heap.size + 1) A c q f hB9 hm hq ht
  rw [h0 4 (by decide) (by decide) hk]
  unfold AnsPost at hin
  generalize ofK f q 4 = a at *
  rw [hk] at y0
  have Hin := Lib.hid hin
  clear hin hmap hB9 hm hq ht h0 hk
  go_enter Tryz.func31, Tryz.ntmps31
  go_upto_region 1 with fail
  rw [Hw0.out]
  go_upto_region 2 with fail
  go_wp2_with (go_at_call 70; (with_reducible refine (Hin.out).mono ?_); rintro e w6 ⟨A6, c6, rfl, hr6, hb6, hf6⟩; have q6 := (hb6.block _ (lt_heap Hp2.out)).trans Hp2.out; obtain ⟨k0, k1, k2⟩ := ans_cells q6; have kf := free_of q6; have Hq6 := Lib.hid q6; have Hr6 := Lib.hid hr6; have Hb6 := Lib.hid (bthen Hb9.out hb6); have Hf6 := Lib.hid hf6; clear q6 hr6 hb6 hf6)
  obtain ⟨WF, hWF⟩ : ∃ WF, ((w6.setCell ⟨w.heap.size + 1 + 1, 0, none⟩ (.slice A6 a.nums.length c6)).setCell ⟨w.heap.size + 1 + 1, 1, none⟩ (.string a.text)).setCell ⟨w.heap.size + 1 + 1, 2, none⟩ (.int .i64 a.e) = WF := ⟨_, rfl⟩
  obtain ⟨qF, sF, kF, bF⟩ := ans_set Hq6.out hWF
  obtain ⟨z0, z1, z2⟩ := ans_cells qF
  rw [hWF]
  refine bodyPost_ret (v := .agg #[(.slice A6 a.nums.length c6), (.string a.text), (.int .i64 a.e)]) (by simp [results, go_sem, Tryz.results31, z0, z1, z2]) rfl ?_
  have hs9 := Hs9.out
  have hMw := HMw.out
  exact ⟨A6, c6, rfl, int_keep Hr6.out (fun b o n c e h0 => by have := Hf6.out b o n c e h0; omega) sF kF, bF _ _ Hb6.out (by omega), fun b o n c e h0 => by have := Hf6.out b o n c e h0; omega⟩
 by_cases hk : q.kind = 5
 ·have hlk := run_lookup_ok Tryz.underlying146 Tryz.underlying3 hmap (5 : Nat) _ (esS_find w.heap.size (w.heap.size + 1) 9 5 (by decide) (by decide))
  replace hlk : (Instr.lookup 146 (.map (some w0.heap.size)) (.int .i64 5) true).run Tryz.prog W9 = .ok (.tuple #[.func (.func 71) #[] #[.pointer (some ⟨w.heap.size, 0, none⟩), .pointer (some ⟨w.heap.size + 1, 0, none⟩)], .bool true]) W9 := hlk
  have hin := of5_calls W9 w.heap.size (w.heap.size + 1) A c q f hB9 hm hq ht
  rw [h0 5 (by decide) (by decide) hk]
  unfold AnsPost at hin
  generalize ofK f q 5 = a at *
  rw [hk] at y0
  have Hin := Lib.hid hin
  clear hin hmap hB9 hm hq ht h0 hk
  go_enter Tryz.func31, Tryz.ntmps31
  go_upto_region 1 with fail
  rw [Hw0.out]
  go_upto_region 2 with fail
  go_wp2_with (go_at_call 71; (with_reducible refine (Hin.out).mono ?_); rintro e w6 ⟨A6, c6, rfl, hr6, hb6, hf6⟩; have q6 := (hb6.block _ (lt_heap Hp2.out)).trans Hp2.out; obtain ⟨k0, k1, k2⟩ := ans_cells q6; have kf := free_of q6; have Hq6 := Lib.hid q6; have Hr6 := Lib.hid hr6; have Hb6 := Lib.hid (bthen Hb9.out hb6); have Hf6 := Lib.hid hf6; clear q6 hr6 hb6 hf6)
  obtain ⟨WF, hWF⟩ : ∃ WF, ((w6.setCell ⟨w.heap.size + 1 + 1, 0, none⟩ (.slice A6 a.nums.length c6)).setCell ⟨w.heap.size + 1 + 1, 1, none⟩ (.string a.text)).setCell ⟨w.heap.size + 1 + 1, 2, none⟩ (.int .i64 a.e) = WF := ⟨_, rfl⟩
  obtain ⟨qF, sF, kF, bF⟩ := ans_set Hq6.out hWF
  obtain ⟨z0, z1, z2⟩ := ans_cells qF
  rw [hWF]
  refine bodyPost_ret (v := .agg #[(.slice A6 a.nums.length c6), (.string a.text), (.int .i64 a.e)]) (by simp [results, go_sem, Tryz.results31, z0, z1, z2]) rfl ?_
  have hs9 := Hs9.out
  have hMw := HMw.out
  exact ⟨A6, c6, rfl, int_keep Hr6.out (fun b o n c e h0 => by have := Hf6.out b o n c e h0; omega) sF kF, bF _ _ Hb6.out (by omega), fun b o n c e h0 => by have := Hf6.out b o n c e h0; omega⟩
 by_cases hk : q.kind = 6
 ·have hlk := run_lookup_ok Tryz.underlying146 Tryz.underlying3 hmap (6 : Nat) _ (esS_find w.heap.size (w.heap.size + 1) 9 6 (by decide) (by decide))
  replace hlk : (Instr.lookup 146 (.map (some w0.heap.size)) (.int .i64 6) true).run Tryz.prog W9 = .ok (.tuple #[.func (.func 74) #[] #[.pointer (some ⟨w.heap.size, 0, none⟩), .pointer (some ⟨w.heap.size + 1, 0, none⟩)], .bool true]) W9 := hlk
  have hin := of6_calls W9 w.heap.size (w.heap.size + 1) A c q f hB9 hm hq ht
  rw [h0 6 (by decide) (by decide) hk]
  unfold AnsPost at hin
  generalize ofK f q 6 = a at *
  rw [hk] at y0
  have Hin := Lib.hid hin
  clear hin hmap hB9 hm hq ht h0 hk
  go_enter Tryz.func31, Tryz.ntmps31
  go_upto_region 1 with fail
  rw [Hw0.out]
  go_upto_region 2 with fail
  go_wp2_with (go_at_call 74; (with_reducible refine (Hin.out).mono ?_); rintro e w6 ⟨A6, c6, rfl, hr6, hb6, hf6⟩; have q6 := (hb6.block _ (lt_heap Hp2.out)).trans Hp2.out; obtain ⟨k0, k1, k2⟩ := ans_cells q6; have kf := free_of q6; have Hq6 := Lib.hid q6; have Hr6 := Lib.hid hr6; have Hb6 := Lib.hid (bthen Hb9.out hb6); have Hf6 := Lib.hid hf6; clear q6 hr6 hb6 hf6)
  obtain ⟨WF, hWF⟩ : ∃ WF, ((w6.setCell ⟨w.heap.size + 1 + 1, 0, none⟩ (.slice A6 a.nums.length c6)).setCell ⟨w.heap.size + 1 + 1, 1, none⟩ (.string a.text)).setCell ⟨w.heap.size + 1 + 1, 2, none⟩ (.int .i64 a.e) = WF := ⟨_, rfl⟩
  obtain ⟨qF, sF, kF, bF⟩ := ans_set Hq6.out hWF
  obtain ⟨z0, z1, z2⟩ := ans_cells qF
  rw [hWF]
  refine bodyPost_ret (v := .agg #[(.slice A6 a.nums.length c6), (.string a.text), (.int .i64 a.e)]) (by simp [results, go_sem, Tryz.results31, z0, z1, z2]) rfl ?_
  have hs9 := Hs9.out
  have hMw := HMw.out
  exact ⟨A6, c6, rfl, int_keep Hr6.out (fun b o n c e h0 => by have := Hf6.out b o n c e h0; omega) sF kF, bF _ _ Hb6.out (by omega), fun b o n c e h0 => by have := Hf6.out b o n c e h0; omega⟩
 by_cases hk : q.kind = 7
 ·have hlk := run_lookup_ok Tryz.underlying146 Tryz.underlying3 hmap (7 : Nat) _ (esS_find w.heap.size (w.heap.size + 1) 9 7 (by decide) (by decide))
  replace hlk : (Instr.lookup 146 (.map (some w0.heap.size)) (.int .i64 7) true).run Tryz.prog W9 = .ok (.tuple #[.func (.func 76) #[] #[.pointer (some ⟨w.heap.size, 0, none⟩), .pointer (some ⟨w.heap.size + 1, 0, none⟩)], .bool true]) W9 := hlk
  have hin := of7_calls W9 w.heap.size (w.heap.size + 1) A c q f hB9 hm hq ht
  rw [h0 7 (by decide) (by decide) hk]
  unfold AnsPost at hin
  generalize ofK f q 7 = a at *
  rw [hk] at y0
  have Hin := Lib.hid hin
  clear hin hmap hB9 hm hq ht h0 hk
  go_enter Tryz.func31, Tryz.ntmps31
  go_upto_region 1 with fail
  rw [Hw0.out]
  go_upto_region 2 with fail
  go_wp2_with (go_at_call 76; (with_reducible refine (Hin.out).mono ?_); rintro e w6 ⟨A6, c6, rfl, hr6, hb6, hf6⟩; have q6 := (hb6.block _ (lt_heap Hp2.out)).trans Hp2.out; obtain ⟨k0, k1, k2⟩ := ans_cells q6; have kf := free_of q6; have Hq6 := Lib.hid q6; have Hr6 := Lib.hid hr6; have Hb6 := Lib.hid (bthen Hb9.out hb6); have Hf6 := Lib.hid hf6; clear q6 hr6 hb6 hf6)
  obtain ⟨WF, hWF⟩ : ∃ WF, ((w6.setCell ⟨w.heap.size + 1 + 1, 0, none⟩ (.slice A6 a.nums.length c6)).setCell ⟨w.heap.size + 1 + 1, 1, none⟩ (.string a.text)).setCell ⟨w.heap.size + 1 + 1, 2, none⟩ (.int .i64 a.e) = WF := ⟨_, rfl⟩
  obtain ⟨qF, sF, kF, bF⟩ := ans_set Hq6.out hWF
  obtain ⟨z0, z1, z2⟩ := ans_cells qF
  rw [hWF]
  refine bodyPost_ret (v := .agg #[(.slice A6 a.nums.length c6), (.string a.text), (.int .i64 a.e)]) (by simp [results, go_sem, Tryz.results31, z0, z1, z2]) rfl ?_
  have hs9 := Hs9.out
  have hMw := HMw.out
  exact ⟨A6, c6, rfl, int_keep Hr6.out (fun b o n c e h0 => by have := Hf6.out b o n c e h0; omega) sF kF, bF _ _ Hb6.out (by omega), fun b o n c e h0 => by have := Hf6.out b o n c e h0; omega⟩
 by_cases hk : q.kind = 8
 ·have hlk := run_lookup_ok Tryz.underlying146 Tryz.underlying3 hmap (8 : Nat) _ (esS_find w.heap.size (w.heap.size + 1) 9 8 (by decide) (by decide))
  replace hlk : (Instr.lookup 146 (.map (some w0.heap.size)) (.int .i64 8) true).run Tryz.prog W9 = .ok (.tuple #[.func (.func 78) #[] #[.pointer (some ⟨w.heap.size, 0, none⟩), .pointer (some ⟨w.heap.size + 1, 0, none⟩)], .bool true]) W9 := hlk
  have hin := of8_calls W9 w.heap.size (w.heap.size + 1) A c q f hB9 hm hq ht
  rw [h0 8 (by decide) (by decide) hk]
  unfold AnsPost at hin
  generalize ofK f q 8 = a at *
  rw [hk] at y0
  have Hin := Lib.hid hin
  clear hin hmap hB9 hm hq ht h0 hk
  go_enter Tryz.func31, Tryz.ntmps31
  go_upto_region 1 with fail
  rw [Hw0.out]
  go_upto_region 2 with fail
  go_wp2_with (go_at_call 78; (with_reducible refine (Hin.out).mono ?_); rintro e w6 ⟨A6, c6, rfl, hr6, hb6, hf6⟩; have q6 := (hb6.block _ (lt_heap Hp2.out)).trans Hp2.out; obtain ⟨k0, k1, k2⟩ := ans_cells q6; have kf := free_of q6; have Hq6 := Lib.hid q6; have Hr6 := Lib.hid hr6; have Hb6 := Lib.hid (bthen Hb9.out hb6); have Hf6 := Lib.hid hf6; clear q6 hr6 hb6 hf6)
  obtain ⟨WF, hWF⟩ : ∃ WF, ((w6.setCell ⟨w.heap.size + 1 + 1, 0, none⟩ (.slice A6 a.nums.length c6)).setCell ⟨w.heap.size + 1 + 1, 1, none⟩ (.string a.text)).setCell ⟨w.heap.size + 1 + 1, 2, none⟩ (.int .i64 a.e) = WF := ⟨_, rfl⟩
  obtain ⟨qF, sF, kF, bF⟩ := ans_set Hq6.out hWF
  obtain ⟨z0, z1, z2⟩ := ans_cells qF
  rw [hWF]
  refine bodyPost_ret (v := .agg #[(.slice A6 a.nums.length c6), (.string a.text), (.int .i64 a.e)]) (by simp [results, go_sem, Tryz.results31, z0, z1, z2]) rfl ?_
  have hs9 := Hs9.out
  have hMw := HMw.out
  exact ⟨A6, c6, rfl, int_keep Hr6.out (fun b o n c e h0 => by have := Hf6.out b o n c e h0; omega) sF kF, bF _ _ Hb6.out (by omega), fun b o n c e h0 => by have := Hf6.out b o n c e h0; omega⟩
 by_cases hk : q.kind = 9
 ·have hlk := run_lookup_ok Tryz.underlying146 Tryz.underlying3 hmap (9 : Nat) _ (esS_find w.heap.size (w.heap.size + 1) 9 9 (by decide) (by decide))
  replace hlk : (Instr.lookup 146 (.map (some w0.heap.size)) (.int .i64 9) true).run Tryz.prog W9 = .ok (.tuple #[.func (.func 80) #[] #[.pointer (some ⟨w.heap.size, 0, none⟩), .pointer (some ⟨w.heap.size + 1, 0, none⟩)], .bool true]) W9 := hlk
  have hin := of9_calls W9 w.heap.size (w.heap.size + 1) A c q f hB9 hm hq ht
  rw [h0 9 (by decide) (by decide) hk]
  unfold AnsPost at hin
  generalize ofK f q 9 = a at *
  rw [hk] at y0
  have Hin := Lib.hid hin
  clear hin hmap hB9 hm hq ht h0 hk
  go_enter Tryz.func31, Tryz.ntmps31
  go_upto_region 1 with fail
  rw [Hw0.out]
  go_upto_region 2 with fail
  go_wp2_with (go_at_call 80; (with_reducible refine (Hin.out).mono ?_); rintro e w6 ⟨A6, c6, rfl, hr6, hb6, hf6⟩; have q6 := (hb6.block _ (lt_heap Hp2.out)).trans Hp2.out; obtain ⟨k0, k1, k2⟩ := ans_cells q6; have kf := free_of q6; have Hq6 := Lib.hid q6; have Hr6 := Lib.hid hr6; have Hb6 := Lib.hid (bthen Hb9.out hb6); have Hf6 := Lib.hid hf6; clear q6 hr6 hb6 hf6)
  obtain ⟨WF, hWF⟩ : ∃ WF, ((w6.setCell ⟨w.heap.size + 1 + 1, 0, none⟩ (.slice A6 a.nums.length c6)).setCell ⟨w.heap.size + 1 + 1, 1, none⟩ (.string a.text)).setCell ⟨w.heap.size + 1 + 1, 2, none⟩ (.int .i64 a.e) = WF := ⟨_, rfl⟩
  obtain ⟨qF, sF, kF, bF⟩ := ans_set Hq6.out hWF
  obtain ⟨z0, z1, z2⟩ := ans_cells qF
  rw [hWF]
  refine bodyPost_ret (v := .agg #[(.slice A6 a.nums.length c6), (.string a.text), (.int .i64 a.e)]) (by simp [results, go_sem, Tryz.results31, z0, z1, z2]) rfl ?_
  have hs9 := Hs9.out
  have hMw := HMw.out
  exact ⟨A6, c6, rfl, int_keep Hr6.out (fun b o n c e h0 => by have := Hf6.out b o n c e h0; omega) sF kF, bF _ _ Hb6.out (by omega), fun b o n c e h0 => by have := Hf6.out b o n c e h0; omega⟩
 have hno : q.kind < 1 ∨ ((9 : Nat) : Int) < q.kind := by omega
 have hlk := run_lookup_no Tryz.underlying146 Tryz.underlying3 hmap .nilFunc Tryz.zeroValue138 q.kind (esS_ne w.heap.size (w.heap.size + 1) 9 q.kind hno)
 have hA : ofA f q = { e := 1 } := by unfold ofA; rw [if_neg (by omega)]
 rw [hA]
 clear hmap hB9 hm hq ht h0 hA hno
 go_enter Tryz.func31, Tryz.ntmps31
 go_upto_region 1 with fail
 rw [Hw0.out]
 go_wp2_with fail
 obtain ⟨WF, hWF⟩ : ∃ WF, ((W9.setCell ⟨w.heap.size + 1 + 1, 0, none⟩ (.slice none 0 0)).setCell ⟨w.heap.size + 1 + 1, 1, none⟩ (.string ⟨#[]⟩)).setCell ⟨w.heap.size + 1 + 1, 2, none⟩ (.int .i64 1) = WF := ⟨_, rfl⟩
 obtain ⟨qF, sF, kF, bF⟩ := ans_set Hp2.out hWF
 obtain ⟨z0, z1, z2⟩ := ans_cells qF
 rw [hWF]
 refine bodyPost_ret (v := .agg #[.slice none 0 0, .string ⟨#[]⟩, .int .i64 1]) (by simp [results, go_sem, Tryz.results31, z0, z1, z2]) rfl ?_
 exact ⟨none, 0, rfl, RdL.nil, bF _ _ Hb9.out (by omega), fun b o n c e h0 => by cases e⟩
end Go.Proofs.YtmbhkkophkccbaaGreat.Sn
end
section
namespace Go.Proofs.YtmbhkkophkccbaaGreat.Sn
open Go Go.RowKit Go.Proofs.YtmbhkkophkccbaaGreat.Seq WS FS Mem Rd Shapes Word FFam Wk Fn Pa Hs
set_option linter.unusedVariables false
set_option linter.unusedSimpArgs false
def sameA (a b : An) : Bool := decide (a.nums = b.nums) && decide (a.text = b.text) && decide (a.e = b.e)
theorem same_self (a : An) : sameA a a = true := by unfold sameA; simp
abbrev anV (v : Value) (a : An) : Value := .agg #[v, .string a.text, .int .i64 a.e]
set_option maxRecDepth 100000 in
theorem Same_calls (w : World) (v1 v2 : Value) (a b : An) (h1 : RdL (intE .i64) 1 w.heap.size w v1 a.nums) (h2 : RdL (intE .i64) 1 w.heap.size w v2 b.nums) : Calls Tryz.prog 36 #[anV v1 a, anV v2 b] w fun e w' => e = .returned (.bool (sameA a b)) ∧ Below w.heap.size w w' := by
 obtain ⟨w1, hw1⟩ : ∃ w1, (w.alloc (.cells #[v1, .string a.text, .int .i64 a.e] 71)).alloc (.cells #[v2, .string b.text, .int .i64 b.e] 71) = w1 := ⟨_, rfl⟩
 have p1 : w1.heap[w.heap.size]? = some (.cells #[v1, .string a.text, .int .i64 a.e] 71 (0, 0)) := by rw [← hw1]; exact heap_old (World.alloc_heap_new _ _)
 have q1 : w1.heap[w.heap.size + 1]? = some (.cells #[v2, .string b.text, .int .i64 b.e] 71 (0, 0)) := by rw [← hw1]; exact heap_new (by simp)
 have hb1 : Below w.heap.size w w1 := by rw [← hw1]; exact ((Below.refl _ _).alloc (Nat.le_refl _) _).alloc (by simp) _
 have heq := FSame.EqualInts_calls w1 v1 v2 a.nums b.nums ((h1.below (intE_keeps _) hb1 (Nat.le_refl _)).mono (intE_keeps _) hb1.size) ((h2.below (intE_keeps _) hb1 (Nat.le_refl _)).mono (intE_keeps _) hb1.size)
 obtain ⟨x0, x1, x2⟩ := ans_cells p1
 obtain ⟨y0, y1, y2⟩ := ans_cells q1
 have hg : ∀ w', Below w1.heap.size w1 w' → w'.cell? ⟨w.heap.size, 1, none⟩ = some (.string a.text) ∧ w'.cell? ⟨w.heap.size, 2, none⟩ = some (.int .i64 a.e) ∧ w'.cell? ⟨w.heap.size + 1, 1, none⟩ = some (.string b.text) ∧ w'.cell? ⟨w.heap.size + 1, 2, none⟩ = some (.int .i64 b.e) := fun w' hb => ⟨cell_grow hb x1, cell_grow hb x2, cell_grow hb y1, cell_grow hb y2⟩
 obtain ⟨A1, c1, rfl, _, _, _⟩ := h1.form
 obtain ⟨A2, c2, rfl, _, _, _⟩ := h2.form
 unfold sameA
 generalize decide (a.nums = b.nums) = B1 at *
 have hst : (a.text.toList == b.text.toList) = decide (a.text = b.text) := FSame.str_beq _ _
 have Hw1 := Lib.hid hw1; have Hb1 := Lib.hid hb1; have Heq := Lib.hid heq; have Hg := Lib.hid hg
 clear hw1 hb1 heq p1 q1 hg h1 h2
 cases B1 with
 | false =>
  clear hst
  go_enter Tryz.func36, Tryz.ntmps36
  go_upto_region 1 with fail
  rw [Hw1.out]
  go_wp2_with (go_at_call 91; (with_reducible refine (Heq.out).mono ?_); rintro e w5 ⟨rfl, hb5⟩; obtain ⟨k1, k2, k3, k4⟩ := Hg.out _ hb5; have Hb5 := Lib.hid (bthen Hb1.out hb5); clear hb5)
  go_ret
  exact ⟨rfl, Hb5.out⟩
 | true =>
  by_cases ht : a.text = b.text
  ·rw [decide_eq_true ht] at hst ⊢
   by_cases he : a.e = b.e
   ·have he1 : (a.e == b.e) = true := by rw [beq_iff_eq]; exact he
    rw [decide_eq_true he]
    clear ht he
    go_enter Tryz.func36, Tryz.ntmps36
    go_upto_region 1 with fail
    rw [Hw1.out]
    go_wp2_with (go_at_call 91; (with_reducible refine (Heq.out).mono ?_); rintro e w5 ⟨rfl, hb5⟩; obtain ⟨k1, k2, k3, k4⟩ := Hg.out _ hb5; have Hb5 := Lib.hid (bthen Hb1.out hb5); clear hb5)
    go_ret
    exact ⟨rfl, Hb5.out⟩
   ·have he1 : (a.e == b.e) = false := by rw [beq_eq_false_iff_ne]; exact he
    rw [decide_eq_false he]
    clear ht he
    go_enter Tryz.func36, Tryz.ntmps36
    go_upto_region 1 with fail
    rw [Hw1.out]
    go_wp2_with (go_at_call 91; (with_reducible refine (Heq.out).mono ?_); rintro e w5 ⟨rfl, hb5⟩; obtain ⟨k1, k2, k3, k4⟩ := Hg.out _ hb5; have Hb5 := Lib.hid (bthen Hb1.out hb5); clear hb5)
    go_ret
    exact ⟨rfl, Hb5.out⟩
  ·rw [decide_eq_false ht] at hst ⊢
   clear ht
   go_enter Tryz.func36, Tryz.ntmps36
   go_upto_region 1 with fail
   rw [Hw1.out]
   go_wp2_with (go_at_call 91; (with_reducible refine (Heq.out).mono ?_); rintro e w5 ⟨rfl, hb5⟩; obtain ⟨k1, k2, k3, k4⟩ := Hg.out _ hb5; have Hb5 := Lib.hid (bthen Hb1.out hb5); clear hb5)
   go_ret
   exact ⟨rfl, Hb5.out⟩
end Go.Proofs.YtmbhkkophkccbaaGreat.Sn
end
section
namespace Go.Proofs.YtmbhkkophkccbaaGreat.S13
open Go Go.RowKit Go.Proofs.YtmbhkkophkccbaaGreat.Seq WS FS Mem Rd Shapes Word FFam Grown
set_option linter.unusedVariables false
set_option linter.unusedSimpArgs false
def GrownPost (l : List Opn) (w : World) (e : Ending) (w' : World) : Prop := ∃ v, e = .returned v ∧ RdF w'.heap.size w' v (growF l) ∧ Below w.heap.size w w'
set_option maxRecDepth 100000 in
set_option maxHeartbeats 4000000 in
theorem grown_calls (w : World) (v : Value) (l : List Opn) (h : RdO w.heap.size w v l) : Calls Tryz.prog 30 #[v] w (GrownPost l w) := by
 have hnew := FNew.New_calls w
 have hrd := fun w' (hb : Below w.heap.size w w') => h.below opE_keeps (w' := w') hb (Nat.le_refl _)
 obtain ⟨A0, c0, rfl, hl0, hc0, _⟩ := h.form
 simp only [maxLen] at hc0
 have Hnew := Lib.hid hnew; have Hrd := Lib.hid hrd
 clear h hnew hrd
 go_enter Tryz.func30, Tryz.ntmps30
 go_wp2_with (go_at_call 44; ((with_reducible refine (Hnew.out).mono ?_); rintro e w1 ⟨v1, rfl, hr1, hb1⟩; have Hr1 := Lib.hid hr1; have Hb1 := Lib.hid hb1; clear hr1 hb1))
 go_loopw [3, 4] (fun v i wr => ∃ k : Nat, k ≤ l.length ∧ i = .int .i64 k ∧ RdF wr.heap.size wr v (growF (l.take k)) ∧ Below w.heap.size w wr) (fun _ i _ => l.length - (intOf i).toNat)
 case atStart => exact ⟨0, Nat.zero_le _, rfl, Hr1.out, Hb1.out⟩
 case round =>
  obtain ⟨k, hk, rfl, hr, hb⟩ := hrel
  have hmg := grow_may (l.take k)
  by_cases hlt : k < l.length
  ·obtain ⟨b, o, rfl, hbl, g0, g1, g2, g3, g4, g5, m1, m2, m3, m4⟩ := op_at (Hrd.out _ hb) hlt
   have hone := Doings.one_calls wr _ _ l[k] hr hmg m1 m2 m3 m4
   have hs : growF (l.take (k + 1)) = oneF (growF (l.take k)) l[k] := by rw [List.take_succ_eq_append_getElem hlt, grow_snoc]
   obtain ⟨A3, c3, rfl, _, _, _⟩ := hr.form
   have Hone := Lib.hid hone; have Hs := Lib.hid hs; have Hb := Lib.hid hb
   clear hone hs hb hr hmg m1 m2 m3 m4
   generalize l[k] = x at *
   go_wp2_with (go_at_call 45; ((with_reducible refine (Hone.out).mono ?_); rintro e w5 ⟨v5, rfl, hr5, hb5⟩; have Hr5 := Lib.hid hr5; have Hb5 := Lib.hid hb5; clear hr5 hb5))
   go_roundw
   case rel => exact ⟨k + 1, by omega, by go_num, by rw [Hs.out]; exact Hr5.out, bthen Hb.out Hb5.out⟩
   case measure => simp [intOf]; omega
  ·have hl : growF (l.take k) = growF l := by rw [List.take_of_length_le (by omega)]
   rw [hl] at hr hmg
   have hmy := FMay.May_calls wr _ _ hr (fun n hn => by have := Work.may_kids hmg n hn; omega)
   rw [hmg] at hmy
   obtain ⟨A3, c3, rfl, _, _, _⟩ := hr.form
   have Hmy := Lib.hid hmy; have Hr := Lib.hid hr; have Hb := Lib.hid hb
   clear hmy hr hb hmg hl
   go_wp2_with (go_at_call 42; ((with_reducible refine (Hmy.out).mono ?_); rintro e w5 ⟨rfl, hb5⟩; have Hb5 := Lib.hid hb5; clear hb5))
   go_ret
   exact ⟨_, rfl, (Hr.out.below nodeE_keeps Hb5.out (Nat.le_refl _)).mono nodeE_keeps Hb5.out.size, bthen Hb.out Hb5.out⟩
end Go.Proofs.YtmbhkkophkccbaaGreat.S13
end
section
namespace Go.Proofs.YtmbhkkophkccbaaGreat.S13
open Go Go.RowKit Go.Proofs.YtmbhkkophkccbaaGreat.Seq WS FS Mem Rd Shapes Word FFam Grown Fn Pa Hs Sn
set_option linter.unusedVariables false
set_option linter.unusedSimpArgs false
abbrev opsS : Array Value := #[.int .i64 1, .int .i64 0, .int .i64 0, .int .i64 0, .string ⟨#[97]⟩, .string ⟨#[]⟩, .int .i64 4, .int .i64 1, .int .i64 0, .int .i64 0, .string ⟨#[]⟩, .string ⟨#[]⟩, .int .i64 2, .int .i64 0, .int .i64 0, .int .i64 0, .string ⟨#[]⟩, .string ⟨#[120]⟩,
 .int .i64 4, .int .i64 2, .int .i64 1, .int .i64 0, .string ⟨#[]⟩, .string ⟨#[]⟩]
def opL (o : Opn) : List Value := [.int .i64 o.kind, .int .i64 o.id, .int .i64 o.to, .int .i64 o.at_, .string o.name, .string o.text]
theorem s_ok : ∀ o ∈ sOps, OkO o := by unfold OkO; decide
theorem ops_rd (w : World) (b : Nat) (h : w.heap[b]? = some (.cells opsS 104 (0, 0))) : RdO w.heap.size w (.slice (some ⟨b, 0, none⟩) 4 4) sOps := by
 have l1 := lt_heap h
 refine ⟨_, 4, rfl, by decide, by decide, fun h0 => ⟨b, 0, rfl, l1, fun i hi => ?_⟩⟩
 have hi5 : i < 4 := hi
 match i, hi5 with
 | 0, _ => exact ⟨opL sOps[0], rfl, fun j u hj => by rw [cell_of_row _ _ _ _ _ _ h]; exact LShown.six 0 hj (by rfl), rfl, s_ok _ (List.getElem_mem _)⟩
 | 1, _ => exact ⟨opL sOps[1], rfl, fun j u hj => by rw [cell_of_row _ _ _ _ _ _ h]; exact LShown.six 6 hj (by rfl), rfl, s_ok _ (List.getElem_mem _)⟩
 | 2, _ => exact ⟨opL sOps[2], rfl, fun j u hj => by rw [cell_of_row _ _ _ _ _ _ h]; exact LShown.six 12 hj (by rfl), rfl, s_ok _ (List.getElem_mem _)⟩
 | 3, _ => exact ⟨opL sOps[3], rfl, fun j u hj => by rw [cell_of_row _ _ _ _ _ _ h]; exact LShown.six 18 hj (by rfl), rfl, s_ok _ (List.getElem_mem _)⟩
def aA : An := { text := ⟨#[60, 97, 62, 120, 60, 47, 97, 62]⟩ }
def aB : An := { nums := [2], e := 90 }
theorem of_a : ofA s4 { kind := 9 } = aA := by
 unfold ofA
 rw [if_pos (by decide)]
 show printedA s4 { kind := 9 } = aA
 unfold printedA
 rw [if_pos (by decide)]
 show ({ text := ⟨(printF s4 0).toArray⟩ } : An) = aA
 rw [s_print]
 rfl
theorem of_b : ofA s4 { kind := 8, text := ⟨#[97, 44, 44]⟩ } = aB := by
 unfold ofA
 rw [if_pos (by decide)]
 show chosenA s4 { kind := 8, text := ⟨#[97, 44, 44]⟩ } = aB
 unfold chosenA
 rw [show parseP ({ kind := 8, text := ⟨#[97, 44, 44]⟩ } : Qy).text = .error 2 from s_parse]
 rfl
set_option maxRecDepth 100000 in
set_option maxHeartbeats 4000000 in
theorem shown_calls (w : World) : Calls Tryz.prog 29 #[] w fun e w' => e = .returned (.bool true) ∧ Below w.heap.size w w' := by
 have hb0 : Below w.heap.size w (w.alloc (.cells opsS 104)) := (Below.refl _ _).alloc (Nat.le_refl _) _
 have hg : Calls Tryz.prog 30 #[.slice (some ⟨w.heap.size, 0, none⟩) 4 4] (w.alloc (.cells opsS 104)) (fun e w' => ∃ A c, e = .returned (.slice A 3 c) ∧ RdF w'.heap.size w' (.slice A 3 c) s4 ∧ Below w.heap.size w w') := by
  refine (grown_calls (w.alloc (.cells opsS 104)) _ sOps (ops_rd _ _ (World.alloc_heap_new _ _))).mono ?_
  rintro e w' ⟨v, rfl, hr, hb⟩
  rw [s_grow] at hr
  obtain ⟨A, c, rfl, _, _, hr'⟩ := hr.form
  exact ⟨A, c, rfl, hr', bthen hb0 hb⟩
 have hqa : QyOk { kind := 9 } := by unfold QyOk; decide
 have hqb : QyOk { kind := 8, text := ⟨#[97, 44, 44]⟩ } := by unfold QyOk; decide
 have ha : ∀ w' A c, RdF w'.heap.size w' (.slice A 3 c) s4 → Calls Tryz.prog 31 #[.slice A 3 c, .agg #[.int .i64 9, .int .i64 0, .int .i64 0, .string ⟨#[]⟩]] w' (AnsPost aA w') := fun w' A c hr => by
  have := Of_calls w' A c { kind := 9 } s4 hr n4 hqa (by decide)
  rw [of_a] at this
  exact this
 have hbb : ∀ w' A c, RdF w'.heap.size w' (.slice A 3 c) s4 → Calls Tryz.prog 31 #[.slice A 3 c, .agg #[.int .i64 8, .int .i64 0, .int .i64 0, .string ⟨#[97, 44, 44]⟩]] w' (AnsPost aB w') := fun w' A c hr => by
  have := Of_calls w' A c { kind := 8, text := ⟨#[97, 44, 44]⟩ } s4 hr n4 hqb (by decide)
  rw [of_b] at this
  exact this
 unfold AnsPost at ha hbb
 have Hg := Lib.hid hg; have Ha := Lib.hid ha; have Hbb := Lib.hid hbb
 clear hg ha hbb hb0 hqa hqb
 go_enter Tryz.func29, Tryz.ntmps29
 go_upto_region 2 with (go_at_call 30; (with_reducible refine (Hg.out).mono ?_); rintro e w5 ⟨A5, c5, rfl, hr5, hb5⟩; have Hr5 := Lib.hid hr5; have Hb5 := Lib.hid hb5; clear hr5 hb5)
 go_upto_region 3 with (go_at_call 31; (with_reducible refine (Ha.out _ _ _ Hr5.out).mono ?_); rintro e w6 ⟨A6, c6, rfl, hr6, hb6, _⟩; have Hr6 := Lib.hid hr6; have Hb6 := Lib.hid hb6; clear hr6 hb6)
 obtain ⟨w7, hw7⟩ : ∃ w7, w6.alloc (.cells #[.slice A6 aA.nums.length c6, .string aA.text, .int .i64 aA.e] 71) = w7 := ⟨_, rfl⟩
 have q7 : w7.heap[w6.heap.size]? = some (.cells #[.slice A6 aA.nums.length c6, .string aA.text, .int .i64 aA.e] 71 (0, 0)) := by rw [← hw7]; exact World.alloc_heap_new _ _
 have hb67 : Below w6.heap.size w6 w7 := by rw [← hw7]; exact (Below.refl _ _).alloc (Nat.le_refl _) _
 have hr57 := (Hr5.out.below nodeE_keeps (bthen Hb6.out hb67) (Nat.le_refl _)).mono nodeE_keeps (bthen Hb6.out hb67).size
 have hra7 := (Hr6.out.below (intE_keeps _) hb67 (Nat.le_refl _)).mono (intE_keeps _) hb67.size
 rw [hw7]
 have Hq7 := Lib.hid q7; have Hr57 := Lib.hid hr57; have Hra7 := Lib.hid hra7; have Hb7 := Lib.hid (bthen Hb5.out (bthen Hb6.out hb67))
 clear hw7 q7 hb67 hr57 hra7
 generalize w6.heap.size = N6 at *
 go_upto_region 4 with (go_at_call 31; (with_reducible refine (Hbb.out _ _ _ Hr57.out).mono ?_); rintro e w8 ⟨A8, c8, rfl, hr8, hb8, _⟩; have Hr8 := Lib.hid hr8; have Hb8 := Lib.hid hb8; clear hr8 hb8)
 obtain ⟨w9, hw9⟩ : ∃ w9, w8.alloc (.cells #[.slice A8 aB.nums.length c8, .string aB.text, .int .i64 aB.e] 71) = w9 := ⟨_, rfl⟩
 have q9 : w9.heap[w8.heap.size]? = some (.cells #[.slice A8 aB.nums.length c8, .string aB.text, .int .i64 aB.e] 71 (0, 0)) := by rw [← hw9]; exact World.alloc_heap_new _ _
 have hb89 : Below w8.heap.size w8 w9 := by rw [← hw9]; exact (Below.refl _ _).alloc (Nat.le_refl _) _
 have hb79 := bthen Hb8.out hb89
 have p9 := (hb79.block _ (lt_heap Hq7.out)).trans Hq7.out
 have hra9 := (Hra7.out.below (intE_keeps _) hb79 (Nat.le_refl _)).mono (intE_keeps _) hb79.size
 have hrb9 := (Hr8.out.below (intE_keeps _) hb89 (Nat.le_refl _)).mono (intE_keeps _) hb89.size
 obtain ⟨b8, o8, rfl, _, g0, _⟩ := intE_at hrb9 (i := 0) (by decide)
 have g1 : w9.cell? ⟨b8, o8, none⟩ = some (.int .i64 2) := by
  have := g0
  rw [Nat.add_zero] at this
  exact this
 have hab := Same_calls w9 _ _ aA aB hra9 hrb9
 rw [show sameA aA aB = false by decide] at hab
 have haa := fun w' (hb : Below w9.heap.size w9 w') => Same_calls w' _ _ aA aA ((hra9.below (intE_keeps _) hb (Nat.le_refl _)).mono (intE_keeps _) hb.size) ((hra9.below (intE_keeps _) hb (Nat.le_refl _)).mono (intE_keeps _) hb.size)
 simp only [same_self] at haa
 obtain ⟨x0, x1, x2⟩ := ans_cells p9
 obtain ⟨y0, y1, y2⟩ := ans_cells q9
 have hgr : ∀ w', Below w9.heap.size w9 w' → w'.cell? ⟨N6, 0, none⟩ = some (.slice A6 aA.nums.length c6) ∧ w'.cell? ⟨N6, 1, none⟩ = some (.string aA.text) ∧ w'.cell? ⟨N6, 2, none⟩ = some (.int .i64 aA.e) := fun w' hb => ⟨cell_grow hb x0, cell_grow hb x1, cell_grow hb x2⟩
 rw [hw9]
 have Hab := Lib.hid hab; have Haa := Lib.hid haa; have Hgr := Lib.hid hgr; have Hb9 := Lib.hid (bthen Hb7.out hb79)
 clear hw9 q9 hb89 hb79 p9 hra9 hrb9 g0 hab haa hgr Hb5 Hb6 Hb7 Hb8 Hr5 Hr6 Hr57 Hra7 Hr8 Hq7
 have e1 : (aA.text.toList == ([60, 97, 62, 120, 60, 47, 97, 62] : List UInt8)) = true := by rw [Lib.toList_data]; decide
 have e2 : (aA.e == 0) = true := by decide
 have e3 : (aB.e == 90) = true := by decide
 have e4 : ((aB.nums.length : Int) == 1) = true := by decide
 have e5 : 0 < (aB.nums.length : Int) := by decide
 go_wp2_with (first
  | (go_at_call 36; (with_reducible refine (Hab.out).mono ?_); rintro e w10 ⟨rfl, hb10⟩; obtain ⟨k0, k1, k2⟩ := Hgr.out _ hb10; have Hb10 := Lib.hid hb10; clear hb10)
  | (go_at_call 36; (with_reducible refine (Haa.out _ Hb10.out).mono ?_); rintro e w11 ⟨rfl, hb11⟩; have Hb11 := Lib.hid (bthen Hb10.out hb11); clear hb11))
 go_ret
 exact ⟨rfl, bthen Hb9.out Hb11.out⟩
end Go.Proofs.YtmbhkkophkccbaaGreat.S13
end
section
namespace Go.Proofs.YtmbhkkophkccbaaGreat.S13
open Go Go.RowKit Go.Proofs.YtmbhkkophkccbaaGreat.Seq WS FS Mem Rd Shapes Word FFam Grown
set_option linter.unusedVariables false
set_option linter.unusedSimpArgs false
set_option maxRecDepth 100000 in
set_option maxHeartbeats 4000000 in
theorem bounded_calls (w : World) (v : Value) (l : List Opn) (h : RdO w.heap.size w v l) : Calls Tryz.prog 28 #[v] w fun e w' => e = .returned (.bool (bndO l)) ∧ w = w' := by
 obtain ⟨A0, c0, rfl, hl0, hc0, h'⟩ := h.form
 simp only [maxLen] at hc0
 have Hh := Lib.hid h'
 have hno := fun k (hk : k < l.length) hx => bndO_no (l := l) hk hx
 have Hno := Lib.hid hno
 clear h h' hno
 go_enter Tryz.func28, Tryz.ntmps28
 go_wp2_with fail
 go_loop [3] (fun i => ∃ k : Nat, k ≤ l.length ∧ i = .int .i64 k ∧ Hid ((l.take k).all opB = true)) (fun i => l.length - (intOf i).toNat)
 case atStart => exact ⟨0, Nat.zero_le _, rfl, Lib.hid rfl⟩
 case round =>
  obtain ⟨k, hk, rfl, hall⟩ := hrel
  by_cases hlt : k < l.length
  ·obtain ⟨b, o, rfl, hbl, _, _, _, _, g4, g5, m1, m2, _, _⟩ := op_at Hh.out hlt
   have hno := Hno.out k hlt
   have htk : l.take (k + 1) = l.take k ++ [l[k]] := List.take_succ_eq_append_getElem hlt
   have hallk : opB l[k] = true → (l.take (k + 1)).all opB = true := fun hx => by rw [htk, List.all_append, hall.out]; simp [hx]
   have Hallk := Lib.hid hallk; have Hn := Lib.hid hno
   clear hallk hno htk hall m1 m2
   generalize l[k] = x at *
   by_cases h1 : x.name.size ≤ 300
   ·by_cases h2 : x.text.size ≤ 300
    ·have hx : opB x = true := by unfold opB; rw [decide_eq_true h1, decide_eq_true h2]; rfl
     have Hx := Lib.hid hx
     clear hx
     go_wp2_with fail
     go_round
     case rel => exact ⟨k + 1, by omega, by go_num, Lib.hid (Hallk.out Hx.out)⟩
     case measure => simp [intOf]; omega
    ·have hx : opB x = false := by unfold opB; rw [decide_eq_false h2]; simp
     have Hx := Lib.hid hx
     clear hx
     go_wp2_with fail
     go_ret
     exact ⟨by rw [Hn.out Hx.out]; rfl, rfl⟩
   ·have hx : opB x = false := by unfold opB; rw [decide_eq_false h1]; rfl
    have Hx := Lib.hid hx
    clear hx
    go_wp2_with fail
    go_ret
    exact ⟨by rw [Hn.out Hx.out]; rfl, rfl⟩
  ·have hr : bndO l = decide ((l.length : Int) ≤ 150) := by
    unfold bndO
    have := hall.out
    rw [List.take_of_length_le (by omega)] at this
    rw [this, Bool.true_and]
    rw [Bool.eq_iff_iff]; simp; try omega
   have Hr := Lib.hid hr
   clear hr hall
   go_wp2_with fail
   go_ret
   exact ⟨by rw [Hr.out]; rfl, rfl⟩
end Go.Proofs.YtmbhkkophkccbaaGreat.S13
end
section
namespace Go.Proofs.YtmbhkkophkccbaaGreat.Shapes
open Go Go.RowKit Go.Deep Rd FS Hs
theorem open_query {H : Type} {P : Program} {enc : TypeId × Value → H} {w : World} {base b0 : Nat} {spare : Nat → Bool} {held : Bool} {r : Reach} {e : TypeId} {fs : Array Field} {v : Value} {d : DataW H} {p : List MemPlace} (hs : P.underlying e = some (.struct fs)) (hE : Opens enc P w base spare held e queryE)
  (hv : Value.okWide P w r b0 e v) (h : DataW.Trod enc P w base spare held e v d p) : ∃ q : Qy, v = Sn.qyV q ∧ QyOk q := by
 obtain ⟨cs, rfl, hsz⟩ := Go.WideShapes.okWide_struct hs hv
 obtain ⟨fuel, hf⟩ := h
 obtain ⟨q, hq, hk⟩ := hE fuel _ _ hf
 refine ⟨q, ?_, hk⟩
 have hc : cs.toList = [.int .i64 q.kind, .int .i64 q.id, .int .i64 q.by_, .string q.text] := by simpa [Value.cells] using hq
 show Value.agg cs = _
 rw [← Array.toArray_toList (xs := cs), hc]
end Go.Proofs.YtmbhkkophkccbaaGreat.Shapes
namespace Go.Proofs.YtmbhkkophkccbaaGreat.Sn
open Go Go.RowKit Go.Proofs.YtmbhkkophkccbaaGreat.Seq WS FS Mem Rd Shapes Word FFam Wk Fn Pa Hs
set_option linter.unusedVariables false
def ErrA (q : Qy) (a : An) : Prop := a.e ≠ 1 ∧ (a.e = 0 ∨ a.text = ⟨#[]⟩ ∧ (a.nums = [] ∧ a.e ≠ 90 ∨ a.nums.length = 1 ∧ a.e = 90 ∧ q.kind = 8))
theorem err_ok {q : Qy} {a : An} (h : a.e = 0) : ErrA q a := ⟨by rw [h]; decide, .inl h⟩
theorem err_no {q : Qy} {a : An} (h1 : a.e ≠ 1) (h2 : a.e ≠ 90) (h3 : a.text = ⟨#[]⟩) (h4 : a.nums = []) : ErrA q a := ⟨h1, .inr ⟨h3, .inl ⟨h4, h2⟩⟩⟩
theorem err_one {q : Qy} {x : Int × Int} (h1 : x.2 ≠ 1) (h2 : x.2 ≠ 90) : ErrA q (oneA x) := by
 unfold oneA
 split
 ·exact err_ok rfl
 ·exact err_no h1 h2 rfl rfl
theorem node_err_cases (f : Fo) (i : Int) : isNode f i = true ∧ nodeErr f i = 0 ∨ isNode f i = false ∧ nodeErr f i = 70 := by
 unfold nodeErr
 cases h : isNode f i with
 | true => exact .inl ⟨rfl, rfl⟩
 | false => exact .inr ⟨rfl, rfl⟩
theorem err_K (f : Fo) (q : Qy) {k : Nat} (h1 : 1 ≤ k) (h9 : k ≤ 9) (hk : q.kind = k) : ErrA q (ofK f q k) := by
 have hc : k = 1 ∨ k = 2 ∨ k = 3 ∨ k = 4 ∨ k = 5 ∨ k = 6 ∨ k = 7 ∨ k = 8 ∨ k = 9 := by omega
 rcases hc with rfl | rfl | rfl | rfl | rfl | rfl | rfl | rfl | rfl
 ·show ErrA q (oneA (parentE f q.id))
  refine err_one ?_ ?_ <;> unfold parentE <;> split <;> (try split) <;> simp
 ·show ErrA q { nums := (kidsE f q.id).1, e := (kidsE f q.id).2 }
  unfold kidsE
  split
  ·exact err_no (by decide) (by decide) rfl rfl
  ·exact err_ok rfl
 ·show ErrA q (oneA (besideE f q.id q.by_))
  refine err_one ?_ ?_ <;> unfold besideE <;> split <;> (try split) <;> (try split) <;> simp
 ·show ErrA q { nums := orderL f q.id, e := nodeErr f q.id }
  rcases node_err_cases f q.id with ⟨h, h'⟩ | ⟨h, h'⟩
  ·exact err_ok h'
  ·refine err_no (by show nodeErr f q.id ≠ 1; rw [h']; decide) (by show nodeErr f q.id ≠ 90; rw [h']; decide) rfl ?_
   show orderL f q.id = []
   unfold orderL
   rw [h]
   rfl
 ·show ErrA q { text := ⟨(contentO f q.id).toArray⟩, e := nodeErr f q.id }
  rcases node_err_cases f q.id with ⟨h, h'⟩ | ⟨h, h'⟩
  ·exact err_ok h'
  ·refine err_no (by show nodeErr f q.id ≠ 1; rw [h']; decide) (by show nodeErr f q.id ≠ 90; rw [h']; decide) ?_ rfl
   show (⟨(contentO f q.id).toArray⟩ : ByteArray) = ⟨#[]⟩
   unfold contentO
   rw [h]
   rfl
 ·show ErrA q { text := attrVal f q.id q.text, e := attrErr f q.id q.text }
  by_cases h0 : attrErr f q.id q.text = 0
  ·exact err_ok h0
  ·have hv : attrVal f q.id q.text = ⟨#[]⟩ := by unfold attrVal; rw [if_neg h0]
   refine err_no ?_ ?_ hv rfl
   ·show attrErr f q.id q.text ≠ 1
    unfold attrErr; split <;> (try split) <;> (try split) <;> decide
   ·show attrErr f q.id q.text ≠ 90
    unfold attrErr; split <;> (try split) <;> (try split) <;> decide
 ·show ErrA q (oneA (byIdV f (byId f q.text)))
  refine err_one ?_ ?_ <;> unfold byIdV <;> split <;> simp
 ·show ErrA q (chosenA f q)
  unfold chosenA
  split
  ·exact ⟨by simp, .inr ⟨rfl, .inr ⟨rfl, rfl, hk⟩⟩⟩
  ·split
   ·exact err_ok rfl
   ·exact err_no (by decide) (by decide) rfl rfl
 ·show ErrA q (printedA f q)
  unfold printedA
  split
  ·exact err_ok rfl
  ·exact err_no (by decide) (by decide) rfl rfl
theorem of_in {f : Fo} {q : Qy} (h : 1 ≤ q.kind ∧ q.kind ≤ 9) : ErrA q (ofA f q) := by
 unfold ofA
 rw [if_pos h]
 exact err_K f q (by omega) (by omega) (by omega)
theorem of_out {f : Fo} {q : Qy} (h : ¬ (1 ≤ q.kind ∧ q.kind ≤ 9)) : ofA f q = { e := 1 } := by
 unfold ofA
 rw [if_neg h]
theorem if_want {b : Bool} {A B : Prop} (hc : b = true) (h : A) : if b = true then A else B := by rw [if_pos hc]; exact h
theorem rd_lt {α : Type} {E : Elem α} {sz B : Nat} {w : World} {v : Value} {l : List α} (h : RdL E sz B w v l) : ∀ b o n c, v = .slice (some (⟨b, o, none⟩ : Addr)) n c → 0 < n → b < B := by
 intro b o n c e h0
 obtain ⟨A, c', rfl, _, _, h3⟩ := h
 injection e with e1 e2 e3
 obtain ⟨b', o', e4, hb, _⟩ := h3 (by omega)
 rw [e1] at e4
 injection e4 with e4
 injection e4 with e4 _ _
 omega
end Go.Proofs.YtmbhkkophkccbaaGreat.Sn
end
