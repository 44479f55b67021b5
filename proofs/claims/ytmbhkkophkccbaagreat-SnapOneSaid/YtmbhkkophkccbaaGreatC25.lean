import Derived.Test.YtmbhkkophkccbaaGreatC24
import Derived.Test.YtmbhkkophkccbaaGreatC22
import Derived.Test.YtmbhkkophkccbaaGreatC21
import Derived.Test.YtmbhkkophkccbaaGreatC08
import Derived.Test.YtmbhkkophkccbaaGreatC11
section
namespace Go.Proofs.YtmbhkkophkccbaaGreat.Sn
open Go Go.RowKit Go.Proofs.YtmbhkkophkccbaaGreat.Seq WS FS Mem Rd Shapes Word FFam Wk Fn Pa Hs
set_option linter.unusedVariables false
set_option linter.unusedSimpArgs false
def oneA (x : Int × Int) : An := if x.2 = 0 then { nums := [x.1] } else { e := x.2 }
def AnsPost (a : An) (w : World) (e : Ending) (w' : World) : Prop := ∃ A c, e = .returned (.agg #[.slice A a.nums.length c, .string a.text, .int .i64 a.e]) ∧ RdL (intE .i64) 1 w'.heap.size w' (.slice A a.nums.length c) a.nums ∧ Below w.heap.size w w' ∧ Fresh w.heap.size (.slice A a.nums.length c)
abbrev z3 : Array Value := #[.slice none 0 0, .string ⟨#[]⟩, .int .i64 0]
theorem ans_cells {w : World} {b : Nat} {x y z : Value} {T : TypeId} (h : w.heap[b]? = some (.cells #[x, y, z] T (0, 0))) : w.cell? ⟨b, 0, none⟩ = some x ∧ w.cell? ⟨b, 1, none⟩ = some y ∧ w.cell? ⟨b, 2, none⟩ = some z :=
 ⟨(cell_of_row _ _ _ _ _ _ h).trans rfl, (cell_of_row _ _ _ _ _ _ h).trans rfl, (cell_of_row _ _ _ _ _ _ h).trans rfl⟩
theorem ans_set {w W : World} {b : Nat} {x y z p q r : Value} {T : TypeId} (h : w.heap[b]? = some (.cells #[x, y, z] T (0, 0))) (hW : ((w.setCell ⟨b, 0, none⟩ p).setCell ⟨b, 1, none⟩ q).setCell ⟨b, 2, none⟩ r = W) :
  W.heap[b]? = some (.cells #[p, q, r] T (0, 0)) ∧ W.heap.size = w.heap.size ∧ (∀ c, c ≠ b → W.heap[c]? = w.heap[c]?) ∧ ∀ B w0, Below B w0 w → B ≤ b → Below B w0 W := by
 subst hW
 exact ⟨(row_set (row_set (row_set h))).trans rfl, by simp, fun c hc => by rw [set_other hc, set_other hc, set_other hc], fun B w0 hb hB => ((hb.setCell hB p).setCell hB q).setCell hB r⟩
theorem rd_keep {α : Type} {E : Elem α} {sz : Nat} (hE : ∀ B w B' w' cs a, E B w cs a → E B' w' cs a) {w w' : World} {v : Value} {l : List α} {N : Nat} (h : RdL E sz w.heap.size w v l) (hf : ∀ b o n c, v = .slice (some (⟨b, o, none⟩ : Addr)) n c → 0 < n → b ≠ N) (hs : w'.heap.size = w.heap.size) (hk : ∀ c, c ≠ N → w'.heap[c]? = w.heap[c]?) : RdL E sz w'.heap.size w' v l := by
 obtain ⟨A, c, rfl, h1, h2, h3⟩ := h
 refine ⟨A, c, rfl, h1, h2, fun h0 => ?_⟩
 obtain ⟨b, o, rfl, hb, hc⟩ := h3 h0
 have hne := hf b o _ _ rfl h0
 refine ⟨b, o, rfl, by omega, fun i hi => ?_⟩
 obtain ⟨cs, g1, g2, g3⟩ := hc i hi
 refine ⟨cs, g1, fun j u hj => ?_, hE _ _ _ _ _ _ g3⟩
 rw [← g2 j u hj]
 simp only [World.cell?, hk b hne]
theorem int_keep {w w' : World} {v : Value} {l : List Int} {N : Nat} (h : RdL (intE .i64) 1 w.heap.size w v l) (hf : ∀ b o n c, v = .slice (some (⟨b, o, none⟩ : Addr)) n c → 0 < n → b ≠ N) (hs : w'.heap.size = w.heap.size) (hk : ∀ c, c ≠ N → w'.heap[c]? = w.heap[c]?) : RdL (intE .i64) 1 w'.heap.size w' v l :=
 rd_keep (fun _ _ _ _ _ _ h => h) h hf hs hk
theorem rd_one {w : World} {b : Nat} {n : Int} (h : w.heap[b]? = some (.cells #[.int .i64 n] 3 (0, 0))) (hn : (Lit.int .i64 n).wf = true) : RdL (intE .i64) 1 w.heap.size w (.slice (some ⟨b, 0, none⟩) 1 1) [n] := by
 refine ⟨_, 1, rfl, show (1 : Nat) ≤ 1 by decide, by decide, fun h0 => ⟨b, 0, rfl, lt_heap h, fun i hi => ?_⟩⟩
 have hi1 : i < 1 := hi
 obtain rfl : i = 0 := by omega
 refine ⟨[.int .i64 n], rfl, fun j u hj => ?_, rfl, hn⟩
 match j with
 | 0 => injection hj with hj; subst hj; exact cell_of h
 | j + 1 => cases hj
theorem wf_small {x : Int} (h0 : -1 ≤ x) (h1 : x < 1000) : (Lit.int .i64 x).wf = true := by
 simp only [Lit.wf, Bool.and_eq_true, decide_eq_true_eq]
 have e1 : IntKind.i64.min = -9223372036854775808 := rfl
 have e2 : IntKind.i64.max = 9223372036854775807 := rfl
 first | omega | (constructor <;> omega)
theorem one_calls (w : World) (n e : Int) (hn : e = 0 → (Lit.int .i64 n).wf = true) : Calls Tryz.prog 63 #[.int .i64 n, .int .i64 e] w (AnsPost (oneA (n, e)) w) := by
 obtain ⟨w1, hw1⟩ : ∃ w1, w.alloc (.cells z3 71) = w1 := ⟨_, rfl⟩
 have q1 : w1.heap[w.heap.size]? = some (.cells z3 71 (0, 0)) := by rw [← hw1]; exact World.alloc_heap_new _ _
 have hb1 : Below w.heap.size w w1 := by rw [← hw1]; exact (Below.refl _ _).alloc (Nat.le_refl _) _
 have hs1 : w1.heap.size = w.heap.size + 1 := by rw [← hw1]; simp
 by_cases he : e = 0
 ·subst he
  have hnw := hn rfl
  obtain ⟨x0, x1, x2⟩ := ans_cells q1
  have ff := free_of q1
  have Hw1 := Lib.hid hw1; have Hq1 := Lib.hid q1; have Hb1 := Lib.hid hb1; have Hn := Lib.hid hnw; have Hs1 := Lib.hid hs1
  clear hw1 q1 hb1 hn hnw
  go_enter Tryz.func63, Tryz.ntmps63
  go_upto_region 1 with fail
  rw [Hw1.out]
  go_wp2_with fail
  obtain ⟨W3, hW3⟩ : ∃ W3, ((w1.setCell ⟨w.heap.size, 0, none⟩ (.slice (some ⟨w.heap.size + 1, 0, none⟩) 1 1)).setCell ⟨w.heap.size, 1, none⟩ (.string ⟨#[]⟩)).setCell ⟨w.heap.size, 2, none⟩ (.int .i64 0) = W3 := ⟨_, rfl⟩
  obtain ⟨q3, s3, k3, b3⟩ := ans_set Hq1.out hW3
  rw [hW3]
  have hz3 : W3.heap.size = w.heap.size + 1 := s3.trans Hs1.out
  obtain ⟨WF, hWF⟩ : ∃ WF, W3.alloc (.cells #[.int .i64 n] 3) = WF := ⟨_, rfl⟩
  have qF : WF.heap[w.heap.size]? = some (.cells #[.slice (some ⟨w.heap.size + 1, 0, none⟩) 1 1, .string ⟨#[]⟩, .int .i64 0] 71 (0, 0)) := by rw [← hWF]; exact heap_old q3
  have rF : WF.heap[w.heap.size + 1]? = some (.cells #[.int .i64 n] 3 (0, 0)) := by rw [← hWF, ← hz3]; exact World.alloc_heap_new _ _
  have bF : Below w.heap.size w WF := by rw [← hWF]; exact (b3 _ _ Hb1.out (Nat.le_refl _)).alloc (by omega) _
  obtain ⟨z0, z1, z2⟩ := ans_cells qF
  rw [hWF]
  refine bodyPost_ret (v := .agg #[.slice (some ⟨w.heap.size + 1, 0, none⟩) 1 1, .string ⟨#[]⟩, .int .i64 0]) (by simp [results, go_sem, Tryz.results63, z0, z1, z2]) rfl ?_
  exact ⟨_, _, rfl, rd_one rF Hn.out, bF, fun b o m c e h0 => by injection e with e; injection e with e; injection e with e; omega⟩
 ·have hA : oneA (n, e) = { e := e } := by unfold oneA; rw [if_neg he]
  rw [hA]
  obtain ⟨x0, x1, x2⟩ := ans_cells q1
  have ff := free_of q1
  have Hw1 := Lib.hid hw1; have Hq1 := Lib.hid q1; have Hb1 := Lib.hid hb1
  clear hw1 q1 hb1 hn hA
  go_enter Tryz.func63, Tryz.ntmps63
  go_upto_region 1 with fail
  rw [Hw1.out]
  go_wp2_with fail
  obtain ⟨WF, hWF⟩ : ∃ WF, ((w1.setCell ⟨w.heap.size, 0, none⟩ (.slice none 0 0)).setCell ⟨w.heap.size, 1, none⟩ (.string ⟨#[]⟩)).setCell ⟨w.heap.size, 2, none⟩ (.int .i64 e) = WF := ⟨_, rfl⟩
  obtain ⟨qF, sF, kF, bF⟩ := ans_set Hq1.out hWF
  obtain ⟨z0, z1, z2⟩ := ans_cells qF
  rw [hWF]
  refine bodyPost_ret (v := .agg #[(.slice none 0 0), (.string ⟨#[]⟩), (.int .i64 e)]) (by simp [results, go_sem, Tryz.results63, z0, z1, z2]) rfl ?_
  exact ⟨none, 0, rfl, RdL.nil, bF _ _ Hb1.out (Nat.le_refl _), fun b o m c e h0 => by cases e⟩
def ManyPost (v : Value) (s : ByteArray) (x : Int) (w : World) (e : Ending) (w' : World) : Prop := e = .returned (.agg #[v, .string s, .int .i64 x]) ∧ Below w.heap.size w w'
theorem many_calls (w : World) (A : Option Addr) (m c : Nat) (x : Int) : Calls Tryz.prog 66 #[.slice A m c, .int .i64 x] w (ManyPost (.slice A m c) ⟨#[]⟩ x w) := by
 obtain ⟨w1, hw1⟩ : ∃ w1, w.alloc (.cells z3 71) = w1 := ⟨_, rfl⟩
 have q1 : w1.heap[w.heap.size]? = some (.cells z3 71 (0, 0)) := by rw [← hw1]; exact World.alloc_heap_new _ _
 have hb1 : Below w.heap.size w w1 := by rw [← hw1]; exact (Below.refl _ _).alloc (Nat.le_refl _) _
 have hs1 : w1.heap.size = w.heap.size + 1 := by rw [← hw1]; simp
 obtain ⟨x0, x1, x2⟩ := ans_cells q1
 have ff := free_of q1
 have Hw1 := Lib.hid hw1; have Hq1 := Lib.hid q1; have Hb1 := Lib.hid hb1
 clear hw1 q1 hb1
 go_enter Tryz.func66, Tryz.ntmps66
 go_upto_region 1 with fail
 rw [Hw1.out]
 go_wp2_with fail
 obtain ⟨WF, hWF⟩ : ∃ WF, ((w1.setCell ⟨w.heap.size, 0, none⟩ (.slice A m c)).setCell ⟨w.heap.size, 1, none⟩ (.string ⟨#[]⟩)).setCell ⟨w.heap.size, 2, none⟩ (.int .i64 x) = WF := ⟨_, rfl⟩
 obtain ⟨qF, sF, kF, bF⟩ := ans_set Hq1.out hWF
 obtain ⟨z0, z1, z2⟩ := ans_cells qF
 rw [hWF]
 refine bodyPost_ret (v := .agg #[(.slice A m c), (.string ⟨#[]⟩), (.int .i64 x)]) (by simp [results, go_sem, Tryz.results66, z0, z1, z2]) rfl ?_
 exact ⟨rfl, bF _ _ Hb1.out (Nat.le_refl _)⟩
theorem text_calls (w : World) (s : ByteArray) (x : Int) : Calls Tryz.prog 72 #[.string s, .int .i64 x] w (ManyPost (.slice none 0 0) s x w) := by
 obtain ⟨w1, hw1⟩ : ∃ w1, w.alloc (.cells z3 71) = w1 := ⟨_, rfl⟩
 have q1 : w1.heap[w.heap.size]? = some (.cells z3 71 (0, 0)) := by rw [← hw1]; exact World.alloc_heap_new _ _
 have hb1 : Below w.heap.size w w1 := by rw [← hw1]; exact (Below.refl _ _).alloc (Nat.le_refl _) _
 have hs1 : w1.heap.size = w.heap.size + 1 := by rw [← hw1]; simp
 obtain ⟨x0, x1, x2⟩ := ans_cells q1
 have ff := free_of q1
 have Hw1 := Lib.hid hw1; have Hq1 := Lib.hid q1; have Hb1 := Lib.hid hb1
 clear hw1 q1 hb1
 go_enter Tryz.func72, Tryz.ntmps72
 go_upto_region 1 with fail
 rw [Hw1.out]
 go_wp2_with fail
 obtain ⟨WF, hWF⟩ : ∃ WF, ((w1.setCell ⟨w.heap.size, 0, none⟩ (.slice none 0 0)).setCell ⟨w.heap.size, 1, none⟩ (.string s)).setCell ⟨w.heap.size, 2, none⟩ (.int .i64 x) = WF := ⟨_, rfl⟩
 obtain ⟨qF, sF, kF, bF⟩ := ans_set Hq1.out hWF
 obtain ⟨z0, z1, z2⟩ := ans_cells qF
 rw [hWF]
 refine bodyPost_ret (v := .agg #[(.slice none 0 0), (.string s), (.int .i64 x)]) (by simp [results, go_sem, Tryz.results72, z0, z1, z2]) rfl ?_
 exact ⟨rfl, bF _ _ Hb1.out (Nat.le_refl _)⟩
theorem has_calls (w : World) (A : Option Addr) (f : Fo) (c : Nat) (i : Int) : Calls Tryz.prog 140 #[.slice A f.length c, .int .i64 i] w fun e w' => e = .returned (.bool (isNode f i)) ∧ w = w' := by
 by_cases h0 : 0 ≤ i
 ·by_cases h1 : i < (f.length : Int)
  ·have hN : isNode f i = true := (node_iff f i).2 ⟨h0, h1⟩
   have HN := Lib.hid hN
   clear hN
   go_enter Tryz.func140, Tryz.ntmps140
   go_wp2_with fail
   go_ret
   exact ⟨by rw [HN.out]; rfl, rfl⟩
  ·have hN : isNode f i = false := by cases hx : isNode f i with | false => rfl | true => exact absurd ((node_iff f i).1 hx).2 h1
   have HN := Lib.hid hN
   clear hN
   go_enter Tryz.func140, Tryz.ntmps140
   go_wp2_with fail
   go_ret
   exact ⟨by rw [HN.out]; rfl, rfl⟩
 ·have hN : isNode f i = false := by cases hx : isNode f i with | false => rfl | true => exact absurd ((node_iff f i).1 hx).1 h0
  have HN := Lib.hid hN
  clear hN
  go_enter Tryz.func140, Tryz.ntmps140
  go_wp2_with fail
  go_ret
  exact ⟨by rw [HN.out]; rfl, rfl⟩
end Go.Proofs.YtmbhkkophkccbaaGreat.Sn
end
section
namespace Go.Proofs.YtmbhkkophkccbaaGreat.Wk
open Go Go.RowKit Go.Shelf Go.Proofs.YtmbhkkophkccbaaGreat.Seq SeqR WS FS Mem Rd Shapes Word FFam Thr Build
set_option linter.unusedVariables false
set_option linter.unusedSimpArgs false
attribute [local go_sem] Oper.semAt_some Thr.wide_fn Thr.wide_depth Thr.wide_round

theorem String_k (B b : Nat) (l : List UInt8) (w : World) (h : Lib.IsBuilder 210 5 B b (Lib.byteCells l) w) (hBw : B ≤ w.heap.size) :
  Calls Tryz.prog 137 #[.pointer (some ⟨b, 0, none⟩)] w fun e w' => e = .returned (.string ⟨l.toArray⟩) ∧ Below B w w' ∧ Lib.OthersKept 5 (some b) w w' :=
 (Any.Builder_String_any_k ShelfB.lays169 ShelfB.extra B b l w (Lib.IsBuilderF.of h) hBw).mono (fun e w' h => ⟨h.1, h.2.2⟩)
theorem own_text {f : Fo} (hm : mayB f = true) {k : Nat} (hk : k < f.length) (h2 : (at_ f (k : Int)).kind = 2) : (at_ f (k : Int)).text.size ≤ 60 := by
 have hp := ((may_is hm).node k hk).1
 rw [Lib.size_eq]
 unfold plainB at hp
 simp [h2] at hp
 exact text_len hp.1.1.2
theorem own_len {f : Fo} (hm : mayB f = true) {k : Int} (hk : isNode f k = true) : (ownT f k).length ≤ 60 := by
 obtain ⟨x, rfl, hx⟩ := node_nat hk
 unfold ownT
 split
 ·have := own_text hm hx (by assumption)
  rwa [Lib.size_eq] at this
 ·simp
theorem flat_len {f : Fo} (hm : mayB f = true) : ∀ (l : List Int), (∀ k ∈ l, isNode f k = true) → (l.flatMap (ownT f)).length ≤ l.length * 60
 | [], _ => by simp
 | k :: l, h => by
  rw [List.flatMap_cons, List.length_append, List.length_cons]
  have := own_len hm (h k (by simp))
  have := flat_len hm l (fun x hx => h x (by simp [hx]))
  omega
noncomputable def contentO (f : Fo) (i : Int) : List UInt8 := if isNode f i then contentL f i else []
def ContentPost (f : Fo) (i : Int) (w : World) (e : Ending) (w' : World) : Prop := e = .returned (.tuple #[.string ⟨(contentO f i).toArray⟩, .int .i64 (nodeErr f i)]) ∧ Below w.heap.size w w'
def conI (S : Nat) (fv : Value) (f : Fo) (i : Int) (m : Nat) (X : Nat → Prop) (W : World) : Prop :=
 ∃ v, IsB (S + 1) (S + 1) (((order f i).take m).flatMap (ownT f)) v W ∧ RdF (S + 1) W fv f ∧ W.heap[S]? = some (.cells #[fv] 29 (0, 0)) ∧ (∀ b, X b ↔ (b = S + 1 ∨ v.ownBlock = some b))
theorem conI_foot (S : Nat) (fv : Value) (f : Fo) (i : Int) : FootR (fun b => b < S + 1) (conI S fv f i) := by
 refine ⟨?_, ?_⟩
 ·rintro m X W W' ⟨v, h1, h2, h3, h4⟩ ho
  have hl := h1.lt
  exact ⟨v, h1.keep (ho.block _ hl (fun h => h.1 ((h4 _).2 (.inl rfl)))) (fun g hg => ho.block g (h1.row.lt g hg).2 (fun h => h.1 ((h4 _).2 (.inr hg)))),
   h2.keep nodeE_keeps (ho.toBelow (by omega) (fun b hb => by have : ¬ b < S + 1 := hb.2; omega)) (Nat.le_refl _), ho.keep h3 (fun h => h.2 (by show S < S + 1; omega)), h4⟩
 ·rintro m X W b ⟨v, h1, h2, h3, h4⟩ hb
  rcases (h4 b).1 hb with rfl | hb
  ·exact h1.lt
  ·exact (h1.row.lt b hb).2
set_option maxRecDepth 100000 in
set_option maxHeartbeats 4000000 in
theorem Content_calls (w : World) (v : Value) (f : Fo) (h : RdF w.heap.size w v f) (hm : mayB f = true) (i : Int) (hwi : (Lit.int .i64 i).wf = true) : Calls Tryz.prog 73 #[v, .int .i64 i] w (ContentPost f i w) := by
 obtain ⟨A0, c0, rfl, hl0, hc0, h'⟩ := h.form
 simp only [maxLen] at hc0
 obtain ⟨w1, hw1⟩ : ∃ w1, w.alloc (.cells #[.slice A0 f.length c0] 29) = w1 := ⟨_, rfl⟩
 have hb1 : Below w.heap.size w w1 := by rw [← hw1]; exact (Below.refl _ _).alloc (Nat.le_refl _) _
 have hq1 : w1.heap[w.heap.size]? = some (.cells #[.slice A0 f.length c0] 29 (0, 0)) := by rw [← hw1]; exact World.alloc_heap_new _ _
 have hs1 : w1.heap.size = w.heap.size + 1 := by rw [← hw1]; simp
 have hr1 : RdF w.heap.size w1 (.slice A0 f.length c0) f := h'.below nodeE_keeps hb1 (Nat.le_refl _)
 have hc1 := cell_of hq1
 have Hw1 := Lib.hid hw1
 clear hw1 h h'
 cases hn : isNode f i with
 | false =>
  have hh := has_no w1 A0 f.length c0 i (node_no hn)
  have hE : nodeErr f i = 70 := by unfold nodeErr; rw [hn]; rfl
  have hO : contentO f i = [] := by unfold contentO; rw [hn]; rfl
  have Hh := Lib.hid hh; have HE := Lib.hid hE; have HO := Lib.hid hO; have Hb1 := Lib.hid hb1
  clear hh hn hE hO hr1 hb1 hq1 hs1
  refine (callsIn_wide (n := 0)).1 ?_
  refine callsIn_of_wp_marks Tryz.func73 rfl trivial ?_ rfl
  simp only [Tryz.ntmps73, List.size_toArray, List.length_cons, List.length_nil, Nat.reduceAdd, Nat.reduceSub, Array.replicate_succ, Array.replicate_zero, List.push_toArray, List.append_toArray, List.nil_append, List.cons_append]
  gi_upto_region 1 with fail
  rw [Hw1.out]
  gi_wp2_with (gi_at_call 111; (refine (callsIn_wide.2 Hh.out).mono ?_); rintro e w5 ⟨rfl, rfl⟩)
  refine ⟨.tuple #[.string ⟨#[]⟩, .int .i64 70], by simp [results, Tryz.results73, go_sem], ?_⟩
  exact ⟨by rw [HE.out, HO.out], Hb1.out⟩
 | true =>
  obtain ⟨k, rfl, hk⟩ := node_nat hn
  have hh := has_yes w1 A0 f.length c0 k hk
  have Hh := Lib.hid hh
  clear hh
  obtain ⟨S, hS⟩ : ∃ S, S = w.heap.size := ⟨_, rfl⟩
  obtain ⟨w2, hw2⟩ : ∃ w2, w1.alloc (.cells #[.pointer none, .slice none 0 0] 210) = w2 := ⟨_, rfl⟩
  have hc2 : w2.cell? ⟨w.heap.size, 0, none⟩ = some (.slice A0 f.length c0) := by rw [← hw2]; exact cell_of (heap_old hq1)
  have hs2 : w2.heap.size = w.heap.size + 2 := by rw [← hw2]; simp; omega
  have hB2 : w2.heap[w.heap.size + 1]? = some (.cells #[.pointer none, .slice none 0 0] 210 (0, 0)) := by rw [← hw2, ← hs1]; exact World.alloc_heap_new _ _
  have hq2 : w2.heap[w.heap.size]? = some (.cells #[.slice A0 f.length c0] 29 (0, 0)) := by rw [← hw2]; exact heap_old hq1
  have hb2 : Below w.heap.size w w2 := by rw [← hw2]; exact hb1.alloc hb1.size _
  have Hw2 := Lib.hid hw2; have Hs1 := Lib.hid hs1; have Hq1 := Lib.hid hq1
  clear hw2 hq1
  refine (callsIn_wide (n := 0)).1 ?_
  refine callsIn_of_wp_marks Tryz.func73 rfl trivial ?_ rfl
  simp only [Tryz.ntmps73, List.size_toArray, List.length_cons, List.length_nil, Nat.reduceAdd, Nat.reduceSub, Array.replicate_succ, Array.replicate_zero, List.push_toArray, List.append_toArray, List.nil_append, List.cons_append]
  gi_upto_region 1 with fail
  rw [Hw1.out]
  gi_upto_region 5 with (gi_at_call 111; (refine (callsIn_wide.2 Hh.out).mono ?_); rintro e w5 ⟨rfl, rfl⟩)
  rw [Hw2.out]
  gi_wp2_with (gi_at_call 112; (refine (callsIn_wide.2 (through_calls _ _ _ _ _)).mono ?_); rintro e w5 ⟨rfl, hw5⟩)
  have hz5 : w5.heap.size = w.heap.size + 4 := by rw [← hw5]; simp; omega
  have q0 : w5.heap[w.heap.size]? = some (.cells #[.slice A0 f.length c0] 29 (0, 0)) := by rw [← hw5]; exact heap_old (heap_old hq2)
  have qB : w5.heap[w.heap.size + 1]? = some (.cells #[.pointer none, .slice none 0 0] 210 (0, 0)) := by rw [← hw5]; exact heap_old (heap_old hB2)
  have qf : w5.heap[w.heap.size + 2]? = some (.cells #[.slice A0 f.length c0] 29 (0, 0)) := by rw [← hw5, ← hs2]; exact heap_old (World.alloc_heap_new w2 _)
  have qi : w5.heap[w.heap.size + 2 + 1]? = some (.cells #[.int .i64 (k : Int)] 3 (0, 0)) := by
   rw [← hw5, ← hs2]
   have := World.alloc_heap_new (w2.alloc (.cells #[.slice A0 f.length c0] 29)) (.cells #[.int .i64 (k : Int)] 3)
   rwa [World.size_alloc] at this
  have hb25 : Below w2.heap.size w2 w5 := by rw [← hw5]; exact ((Below.refl _ _).alloc (Nat.le_refl _) _).alloc (by simp) _
  have hb5 : Below w.heap.size w w5 := bthen hb2 hb25
  have hr2 : RdF w.heap.size w2 (.slice A0 f.length c0) f := by rw [← Hw2.out]; exact hr1.keep nodeE_keeps ((Below.refl _ _).alloc (by omega) _) (Nat.le_refl _)
  have hr5 : RdF (w.heap.size + 1) w5 (.slice A0 f.length c0) f := (hr2.keep nodeE_keeps (hb25.mono (by omega)) (Nat.le_refl _)).mono nodeE_keeps (by omega)
  have hol := order_len (may_is hm).fam (may_is hm).climb hn
  have hl60 := (may_is hm).len
  have hE : nodeErr f k = 0 := by unfold nodeErr; rw [hn]; rfl
  have hO : contentO f k = contentL f k := by unfold contentO; rw [hn]; rfl
  have hall : ∀ x ∈ order f k, isNode f x = true := fun x hx => ((order_mem (may_is hm) hn x).1 hx).1
  have HE := Lib.hid hE; have HO := Lib.hid hO; have Hall := Lib.hid hall; have Hb5 := Lib.hid hb5; have Hz5 := Lib.hid hz5
  clear hw5 hb1 hr1 Hw1 Hh hE hO hall hb25 hb5 hb2 hr2 hq2 hc2 hB2 Hw2 Hq1 Hs1
  have hsz2 : w2.heap.size = w.heap.size + 2 := hs2

  refine wpIn_rangeR rfl (enters_of Tryz.func188 (by kernel_rfl) rfl) (through_seqR f hm k hn hwi (w.heap.size + 1) (w.heap.size + 2 + 1) (w.heap.size + 2) (by omega) (by omega) (.slice A0 f.length c0))
   (fun W ho => ⟨ho.keep qi (fun h => h), ho.keep qf (fun h => h), hr5.keep nodeE_keeps (ho.toBelow (by omega) (fun b hb => hb.elim)) (Nat.le_refl _), by have := ho.size; omega⟩)
   (conI w.heap.size (.slice A0 f.length c0) f k) (fun c m X W => False) (conI_foot _ _ _ _) (fun c => ⟨fun _ _ _ _ h _ => h, fun _ _ _ _ h _ => h.elim⟩) (fun b => b = w.heap.size + 1)
   (fun b hb => ⟨fun h => h, fun h => by omega⟩)
   ⟨.slice none 0 0, ⟨.inl qB, by rw [List.take_zero]; exact World.ownsRow_nil _ _ _ _, fun h => by simp [Value.ownBlock] at h, Nat.le_refl _⟩, hr5, q0, fun b => by simp [Value.ownBlock]⟩
   (fun b h => by rcases h with h | h | h | h; exact h.elim; omega; omega; omega) (fun b hb => by have : b < w.heap.size + 1 := hb; omega)
   (fun m => { tmps := #[.slice A0 f.length c0, .int .i64 (k : Int), .pointer (some ⟨w.heap.size, 0, none⟩), undef, .string ⟨#[]⟩, .int .i64 0, .int .i64 0, .pointer (some ⟨w.heap.size + 1, 0, none⟩), ((order f k).map (Value.int .i64)).getD m undef, .slice A0 f.length c0, .int .i64 (k : Int), .int .i64 0, .int .i64 0, .bool false, undef, .slice A0 f.length c0, .int .i64 (k : Int),
    .func (.func 188) #[] #[.pointer (some ⟨w.heap.size + 2 + 1, 0, none⟩), .pointer (some ⟨w.heap.size + 2, 0, none⟩)], ((order f k).map (Value.int .i64)).getD m undef, undef, undef, undef, undef, undef, undef, undef, undef, undef, undef, undef, undef, undef], defers := [] })
   ?assign ?body ?done ?stop
  case assign =>
   intro l m hm' W K hK
   rw [show ((order f k).map (Value.int .i64)).getD m undef = ((order f k).map (Value.int .i64))[m] by rw [List.getD_eq_getElem?_getD, List.getElem?_eq_getElem hm']; rfl] at hK
   generalize ((order f k).map (Value.int .i64))[m] = x at *
   gi_wp2
   exact hK
  case body =>
   rintro l m hm' X' W' ⟨sv, h1, h2, h3, h4⟩
   have hmo : m < (order f k).length := by simpa using hm'
   rw [show ((order f k).map (Value.int .i64)).getD m undef = .int .i64 (order f k)[m] by rw [List.getD_eq_getElem?_getD, List.getElem?_eq_getElem hm']; simp]
   have hnx : (order f k).take (m + 1) = (order f k).take m ++ [(order f k)[m]] := List.take_succ_eq_append_getElem hmo
   have hcon : ((order f k).take (m + 1)).flatMap (ownT f) = ((order f k).take m).flatMap (ownT f) ++ ownT f (order f k)[m] := by rw [hnx, List.flatMap_append]; simp
   obtain ⟨x, hx, hxl⟩ := node_nat (Hall.out _ (List.getElem_mem hmo))
   rw [hx] at hcon ⊢
   have hfl := flat_len hm ((order f k).take m) (fun y hy => Hall.out y (List.mem_of_mem_take hy))
   rw [List.length_take] at hfl
   have hlen : (((order f k).take m).flatMap (ownT f)).length ≤ 3600 := by omega
   have hc5 := cell_of h3
   obtain ⟨b, o, Aa, ca, Ak, ck, e0, hbl, g0, g1, g2, g3, g4, g5, ra, rk, la, lca, lk, lck, m1, m2, m3, m4⟩ := node_at h2 hxl
   subst e0
   rw [← at_nat hxl] at g0 g2
   have hxlt : (x : Int) < (f.length : Int) := by omega
   have hd0 : decide ((x : Int) < 0) = false := by simp
   have H1 := Lib.hid h1; have H2 := Lib.hid h2; have H3 := Lib.hid h3; have H4 := Lib.hid h4; have Hcon := Lib.hid hcon
   clear h2 h3 h4 hnx hcon q0 qf qi qB hr5 ra rk la lca lk lck m1 m2 m3 m4 g1 g3 g4 g5 hfl hx
   have hlt1 := h1.lt
   obtain ⟨L, hL⟩ : ∃ L, L = ((order f k).take m).flatMap (ownT f) := ⟨_, rfl⟩
   by_cases hk2 : (at_ f (x : Int)).kind = 2
   ·have hts := own_text hm hxl hk2
    have hwr := WriteString_calls (w.heap.size + 1) (w.heap.size + 1) _ sv (at_ f (x : Int)).text W' h1 (by omega)
    have how : ownT f (x : Int) = (at_ f (x : Int)).text.data.toList := by unfold ownT; rw [if_pos hk2]
    rw [hk2] at g0
    have Hwr := Lib.hid hwr; have How := Lib.hid how
    clear hwr how h1 hk2
    gi_wp2_with (gi_at_call 136; (refine (callsIn_wide.2 Hwr.out).mono ?_); rintro e w6 ⟨rfl, sv', k1, k2, k3⟩)
    have hown' : ∀ b, sv'.ownBlock = some b → w.heap.size + 1 ≤ b := fun b hb => (k1.row.lt b hb).1
    have hX : ∀ b, X' b → w.heap.size + 1 ≤ b := fun b hb => by
     rcases (H4.out b).1 hb with rfl | hb
     ·exact Nat.le_refl _
     ·exact (H1.out.row.lt b hb).1
    have hoX : Off X' W' w6 := k2.mono (fun b _ hb => (H4.out b).2 hb)
    refine ⟨fun b => b = w.heap.size + 1 ∨ sv'.ownBlock = some b, ?_, hoX, sv', ?_, H2.out.keep nodeE_keeps (hoX.toBelow (by omega) hX) (Nat.le_refl _), hoX.keep H3.out (fun h => by have := hX _ h; omega), fun b => Iff.rfl⟩
    ·rintro b (rfl | hb)
     ·exact .inl ((H4.out _).2 (.inl rfl))
     ·rcases k3 with k3 | ⟨g, k3, k4⟩
      ·exact .inl ((H4.out _).2 (.inr (by rw [← k3]; exact hb)))
      ·rw [k3] at hb; injection hb with hb; exact .inr (hb ▸ k4)
    ·rw [Hcon.out, How.out]; exact k1
   ·have how : ownT f (x : Int) = [] := by unfold ownT; rw [if_neg hk2]
    have hkd : decide ((at_ f (x : Int)).kind = 2) = false := by simpa using hk2
    have How := Lib.hid how
    clear how h1
    gi_wp2
    exact ⟨X', Grew.refl _ _, Off.refl _ _, sv, by rw [Hcon.out, How.out, List.append_nil]; exact H1.out, H2.out, H3.out, H4.out⟩
  case done =>
   rintro D X' W hD hXD hgr hof ⟨sv, h1, h2, h3, h4⟩ hK
   rw [List.length_map, List.take_of_length_le (Nat.le_refl _)] at h1
   have hst := String_k (w.heap.size + 1) (w.heap.size + 1) _ W h1.lib (by have := h1.lt; omega)
   have Hst := Lib.hid hst; have HK := Lib.hid hK; have Hof := Lib.hid hof
   clear h1 h2 h3 h4 hK hof hgr q0 qf qi qB hr5 hst
   gi_wp2_with (gi_at_call 137; (refine (callsIn_wide.2 Hst.out).mono ?_); rintro e w6 ⟨rfl, hb6, ho6⟩)
   have hK6 : w6.heap[D]? = some (.deferred (some [])) := ho6 D _ HK.out (fun h => by injection h with h; omega) (fun c fz h => by cases h)
   refine ⟨by simp, .inl ⟨_, _, rfl, run_takeDeferred hK6, ?_⟩⟩
   refine ⟨.tuple #[.string ⟨(contentL f k).toArray⟩, .int .i64 0], by simp [results, Tryz.results73, go_sem]; rfl, by rw [HE.out, HO.out], ?_⟩
   have b1 := (Hb5.out.trans (Hof.out.toBelow (B := w.heap.size) (by omega) (fun b h => by rcases h with h | h; omega; exact h.elim))).trans (hb6.mono (by omega))
   exact b1.trans (Off.toBelow (Y := fun b => b = D) (Off.putObj _ _ _ rfl) b1.size (fun b h => by omega))
  case stop => exact fun D c k X' W _ _ _ _ _ h _ => h.elim
end Go.Proofs.YtmbhkkophkccbaaGreat.Wk
end
section
namespace Go.Proofs.YtmbhkkophkccbaaGreat.Pr
open Go Go.RowKit Go.Proofs.YtmbhkkophkccbaaGreat.Seq WS FS Mem Rd Shapes Build Repl ReplB ReplR ReplC FFam
set_option linter.unusedVariables false
set_option linter.unusedSimpArgs false

abbrev nodeV (n : Nd) (Aa : Option Addr) (ca : Nat) (Ak : Option Addr) (ck : Nat) : Value := .agg #[.int .i64 n.kind, .string n.name, .string n.text, .slice Aa n.attrs.length ca, .int .i64 n.parent, .slice Ak n.kids.length ck]
def DonePr (L : Lay) (l p : List UInt8) (v : Value) (w : World) (e : Ending) (w' : World) : Prop := e = .returned (.tuple #[]) ∧ PPost L l p v w w'
def PutOK (L : Lay) (i : Int) : Prop := ∀ (l : List UInt8) (v : Value) (Fs : Nat → Prop) (w : World) (Aa : Option Addr) (ca : Nat) (Ak : Option Addr) (ck : Nat), PInv L l v Fs w →
 RdL attrE 2 L.B w (.slice Aa (at_ L.f i).attrs.length ca) (at_ L.f i).attrs → RdL (intE .i64) 1 L.B w (.slice Ak (at_ L.f i).kids.length ck) (at_ L.f i).kids → l.length + (printL L.f i).length ≤ 1000000000 →
 Calls Tryz.prog 202 #[nodeV (at_ L.f i) Aa ca Ak ck, .pointer (some ⟨L.b, 0, none⟩), .pointer (some ⟨L.bt, 0, none⟩), .pointer (some ⟨L.bk, 0, none⟩), .pointer (some ⟨L.bv, 0, none⟩)] w (DonePr L l (printL L.f i) v w)
theorem rd_off {L : Lay} {l : List UInt8} {v : Value} {Fs : Nat → Prop} {w w' : World} {α : Type} {E : Elem α} {sz : Nat} {u : Value} {xs : List α} (hE : E.Keeps) (h : PInv L l v Fs w) (ok : L.OK) (hr : RdL E sz L.B w u xs) (ho : Off (YP L v) w w') : RdL E sz L.B w' u xs :=
 hr.keep hE (ho.toBelow (by have := h.sz; have := ok.lt.1; have := ok.ge.1; omega) (h.lo ok)) (Nat.le_refl _)
theorem kids_step {L : Lay} {l : List UInt8} {v v' v5 : Value} {Fs5 : Nat → Prop} {w wr W w5 : World} {KS : List Int} {k : Nat} {u : List UInt8} (hO : Hid (Off (YP L v) w wr)) (hG : Hid (Grew w v v'))
  (Hfm : Hid ((KS.take (k + 1)).flatMap (printL L.f) = (KS.take k).flatMap (printL L.f) ++ u)) (HI5 : Hid (PInv L (l ++ (KS.take k).flatMap (printL L.f) ++ u) v5 Fs5 w5)) (HO5 : Hid (Off (YP L v') W w5)) (HG5 : Hid (Grew W v' v5)) (hW : W = wr ∨ W = wr.drew) (hlt : k < KS.length) :
  ∃ (k_1 : Nat) (v' : Value) (Fs' : Nat → Prop), k_1 ≤ KS.length ∧ Value.int .i64 ((k : Int) + 1) = .int .i64 k_1 ∧ Hid (PInv L (l ++ (KS.take k_1).flatMap (printL L.f)) v' Fs' w5) ∧ Hid (Off (YP L v) w w5) ∧ Hid (Grew w v v') := by
 have hO' : Off (YP L v) w W := by rcases hW with rfl | rfl; exact hO.out; exact hO.out.trans (Off.drew _ _)
 refine ⟨k + 1, v5, Fs5, by omega, by go_num, Lib.hid (by rw [Hfm.out, ← List.append_assoc]; exact HI5.out), Lib.hid (hO'.trans' HO5.out ?_), Lib.hid (hG.out.trans HG5.out hO'.size)⟩
 intro b hb
 rcases hb with hb | hb | hb | hb
 ·exact .inl (.inl hb)
 ·exact .inl (.inr (.inl hb))
 ·exact .inl (.inr (.inr (.inl hb)))
 ·rcases hG.out with g | ⟨x, g1, g2⟩
  ·exact .inl (.inr (.inr (.inr (by rw [← g]; exact hb))))
  ·rw [g1] at hb; injection hb with hb; subst hb; exact .inr g2
set_option maxRecDepth 100000 in
set_option maxHeartbeats 4000000 in
theorem kids_calls (L : Lay) (ok : L.OK) (i : Int) (hk : ∀ k ∈ (at_ L.f i).kids, isNode L.f k = true ∧ PutOK L k) (l : List UInt8) (v : Value) (Fs : Nat → Prop) (w : World) (Aa : Option Addr) (ca : Nat) (Ak : Option Addr) (ck : Nat) (h : PInv L l v Fs w)
  (hrk : RdL (intE .i64) 1 L.B w (.slice Ak (at_ L.f i).kids.length ck) (at_ L.f i).kids) (hl : l.length + ((at_ L.f i).kids.flatMap (printL L.f)).length ≤ 1000000000) :
  Calls Tryz.prog 201 #[nodeV (at_ L.f i) Aa ca Ak ck, .pointer (some ⟨L.bp, 0, none⟩), .pointer (some ⟨L.bF, 0, none⟩)] w (DonePr L l ((at_ L.f i).kids.flatMap (printL L.f)) v w) := by
 have hlen := hrk.len
 simp only [maxLen] at hlen
 have hrd0 := fun w' (ho : Off (YP L v) w w') => rd_off (intE_keeps _) h ok hrk ho
 have Hrd := Lib.hid hrd0; have H := Lib.hid h; have Hk := Lib.hid hk; have Hl := Lib.hid hl; have Hok := Lib.hid ok
 clear hrd0 h hk hl ok hrk
 obtain ⟨KS, hKS⟩ : ∃ KS, KS = (at_ L.f i).kids := ⟨_, rfl⟩
 rw [← hKS] at Hrd Hk Hl
 rw [← hKS] at hlen
 unfold nodeV
 rw [← hKS]
 obtain ⟨n0, hn0⟩ : ∃ n0, n0 = at_ L.f i := ⟨_, rfl⟩
 rw [← hn0]
 clear hKS hn0
 go_enter Tryz.func201, Tryz.ntmps201
 go_wp2_with fail
 obtain ⟨W0, hW0⟩ : ∃ W0, w.alloc (.cells #[.int .i64 n0.kind, .string n0.name, .string n0.text, .slice Aa n0.attrs.length ca, .int .i64 n0.parent, .slice Ak KS.length ck] 50) = W0 := ⟨_, rfl⟩
 have hI0 : PInv L l v Fs W0 := by rw [← hW0]; exact H.out.alloc Hok.out _
 have hO0 : Off (YP L v) w W0 := by rw [← hW0]; exact Off.alloc _ _ _
 rw [hW0]
 have HI0 := Lib.hid hI0; have HO0 := Lib.hid hO0
 clear hI0 hO0 hW0
 go_loopw [9] (fun ix wr => ∃ (k : Nat) (v' : Value) (Fs' : Nat → Prop), k ≤ KS.length ∧ ix = .int .i64 k ∧ Hid (PInv L (l ++ (KS.take k).flatMap (printL L.f)) v' Fs' wr) ∧ Hid (Off (YP L v) w wr) ∧ Hid (Grew w v v')) (fun ix _ => KS.length - (intOf ix).toNat)
 case atStart => exact ⟨0, v, Fs, Nat.zero_le _, rfl, Lib.hid (by simpa using HI0.out), HO0, Lib.hid (Grew.refl _ _)⟩
 case round =>
  obtain ⟨k, v', Fs', hkl, rfl, hI, hO, hG⟩ := hrel
  by_cases hlt : k < KS.length
  ·obtain ⟨bk, ok', rfl, hbkB, e1, _⟩ := intE_at (Hrd.out wr hO.out) hlt
   obtain ⟨hn, hput⟩ := Hk.out KS[k] (List.getElem_mem _)
   have htk : KS.take (k + 1) = KS.take k ++ [KS[k]] := List.take_succ_eq_append_getElem hlt
   have hpl : (l ++ (KS.take k).flatMap (printL L.f)).length + (printL L.f KS[k]).length ≤ 1000000000 := by
    have h1 := Hl.out
    conv at h1 => lhs; rw [← List.take_append_drop k KS, List.drop_eq_getElem_cons hlt]
    rw [List.flatMap_append, List.flatMap_cons, List.length_append, List.length_append] at h1
    rw [List.length_append]
    omega
   have hfm : (KS.take (k + 1)).flatMap (printL L.f) = (KS.take k).flatMap (printL L.f) ++ printL L.f KS[k] := by rw [htk, List.flatMap_append]; simp
   generalize KS[k] = x at *
   obtain ⟨j, rfl, hj⟩ := node_nat hn
   have c1 := cell_of hI.out.vp
   have c2 := cell_of hI.out.vF
   obtain ⟨b1, o1, Aa1, ca1, Ak1, ck1, hA, hbl, g0, g1, g2, g3, g4, g5, ra, rk, la, lca, lk, lck, m1, m2, m3, m4⟩ := node_at hI.out.rd hj
   have hLc : L.f.length ≤ L.c ∧ L.f.length ≤ 9223372036854775807 := by
    obtain ⟨_, _, he, p1, p2, _⟩ := hI.out.rd.form
    injection he with _ _ he
    subst he
    exact ⟨p1, by simp only [maxLen] at p2; omega⟩
   rw [hA] at c2
   rw [← at_nat hj] at ra rk g0 g1 g2 g3 g4 g5
   have hp : ∀ W, (W = wr ∨ W = wr.drew) → Calls Tryz.prog 202 #[nodeV (at_ L.f j) Aa1 ca1 Ak1 ck1, .pointer (some ⟨L.b, 0, none⟩), .pointer (some ⟨L.bt, 0, none⟩), .pointer (some ⟨L.bk, 0, none⟩), .pointer (some ⟨L.bv, 0, none⟩)] W (DonePr L (l ++ (KS.take k).flatMap (printL L.f)) (printL L.f j) v' W) := by
    rintro W (rfl | rfl)
    ·exact hput _ _ _ _ _ _ _ _ hI.out ra rk hpl
    ·exact hput _ _ _ _ _ _ _ _ (hI.out.drew Hok.out) (rd_off attrE_keeps hI.out Hok.out ra (Off.drew _ _)) (rd_off (intE_keeps _) hI.out Hok.out rk (Off.drew _ _)) hpl
   unfold nodeV at hp
   have hjn : (j : Int) < L.f.length := by omega
   have Hp := Lib.hid hp; have Hfm := Lib.hid hfm
   generalize at_ L.f j = n1 at *
   clear hp hfm hput hpl htk ra rk la lca lk lck m1 m2 m3 m4 hA hn
   go_wp2_with fail
   go_region_with (go_at_call 202; (first | with_reducible refine (Hp.out _ (.inl rfl)).mono ?_ | with_reducible refine (Hp.out _ (.inr rfl)).mono ?_); go_loud (rintro e w5 ⟨rfl, v5, Fs5, hI5, hO5, hG5⟩; have HI5 := Lib.hid hI5; have HO5 := Lib.hid hO5; have HG5 := Lib.hid hG5; clear hI5 hO5 hG5))
   all_goals go_wp2_with fail
   all_goals
    go_roundw
    case rel =>
     first
      | exact kids_step hO hG Hfm HI5 HO5 HG5 (.inl rfl) hlt
      | exact kids_step hO hG Hfm HI5 HO5 HG5 (.inr rfl) hlt
    case measure => simp [intOf]; omega
  ·obtain rfl : k = KS.length := by omega
   rw [List.take_length] at hI
   clear hlt
   go_wp2_with fail
   go_end0
   exact ⟨rfl, v', Fs', hI.out, hO.out, hG.out⟩
end Go.Proofs.YtmbhkkophkccbaaGreat.Pr
end
