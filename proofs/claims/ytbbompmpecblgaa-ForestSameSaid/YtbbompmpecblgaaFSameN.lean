/- Equality of nodes, of forests. -/
import Derived.Test.YtbbompmpecblgaaFSame
namespace Go.Proofs.Ytbbompmpecblgaa.FSameN
open Go Go.RowKit Go.Proofs.Ytbbompmpecblgaa.Seq Go.Proofs.Ytbbompmpecblgaa.WS Go.Proofs.Ytbbompmpecblgaa.FS Go.Proofs.Ytbbompmpecblgaa.WordIt Go.Proofs.Ytbbompmpecblgaa.Mem Go.Proofs.Ytbbompmpecblgaa.Rd Go.Proofs.Ytbbompmpecblgaa.Word Go.Proofs.Ytbbompmpecblgaa.WordHas Go.Proofs.Ytbbompmpecblgaa.Shapes Go.Proofs.Ytbbompmpecblgaa.FFam Go.Proofs.Ytbbompmpecblgaa.FMay Go.Proofs.Ytbbompmpecblgaa.FSame
set_option linter.unusedVariables false
set_option linter.unusedSimpArgs false

theorem node_eq (k1 k2 p1 p2 : Int) (n1 n2 t1 t2 : ByteArray) (a1 a2 : List Av) (c1 c2 : List Int) :
    decide ((⟨k1, n1, t1, a1, p1, c1⟩ : Nd) = ⟨k2, n2, t2, a2, p2, c2⟩) = ((k1 == k2) && (n1.toList == n2.toList) && (t1.toList == t2.toList) && (p1 == p2) && decide (a1 = a2) && decide (c1 = c2)) := by
  rw [Bool.eq_iff_iff]
  simp only [Nd.mk.injEq, decide_eq_true_eq, Bool.and_eq_true, beq_iff_eq, str_inj]
  constructor
  · rintro ⟨h1, h2, h3, h4, h5, h6⟩; exact ⟨⟨⟨⟨⟨h1, h2⟩, h3⟩, h5⟩, h4⟩, h6⟩
  · rintro ⟨⟨⟨⟨⟨h1, h2⟩, h3⟩, h5⟩, h4⟩, h6⟩; exact ⟨h1, h2, h3, h4, h5, h6⟩
theorem cell_at1 (w : World) (cs cs' : Array Value) (t t' : TypeId) (j : Nat) (u : Value) (h : cs[j]? = some u) : ((w.alloc (.cells cs t)).alloc (.cells cs' t')).cell? ⟨w.heap.size, j, none⟩ = some u := by
  rw [World.cell?_alloc_lt _ _ _ (by simp), cell_of_row _ _ _ _ t (0, 0) (heap_alloc_new w _)]; exact h
theorem cell_at2 (w : World) (cs cs' : Array Value) (t t' : TypeId) (j : Nat) (u : Value) (h : cs'[j]? = some u) : ((w.alloc (.cells cs t)).alloc (.cells cs' t')).cell? ⟨w.heap.size + 1, j, none⟩ = some u := by
  have := cell_of_row ((w.alloc (.cells cs t)).alloc (.cells cs' t')) (w.alloc (.cells cs t)).heap.size j cs' t' (0, 0) (heap_alloc_new _ _)
  rw [show (w.alloc (.cells cs t)).heap.size = w.heap.size + 1 by simp] at this
  rw [this]; exact h
set_option maxRecDepth 100000 in
set_option maxHeartbeats 4000000 in
theorem same1_calls (w : World) (k1 k2 p1 p2 : Int) (n1 n2 t1 t2 : ByteArray) (a1 a2 : List Av) (c1 c2 : List Int) (va1 vc1 va2 vc2 : Value)
    (ha1 : RdL attrE 2 w.heap.size w va1 a1) (ha2 : RdL attrE 2 w.heap.size w va2 a2) (hc1 : RdL (intE .i64) 1 w.heap.size w vc1 c1) (hc2 : RdL (intE .i64) 1 w.heap.size w vc2 c2) :
    Calls Try.prog 61 #[.agg #[.int .i64 k1, .string n1, .string t1, va1, .int .i64 p1, vc1], .agg #[.int .i64 k2, .string n2, .string t2, va2, .int .i64 p2, vc2]] w fun e w' =>
      e = .returned (.bool (decide ((⟨k1, n1, t1, a1, p1, c1⟩ : Nd) = ⟨k2, n2, t2, a2, p2, c2⟩))) ∧ Below w.heap.size w w' := by
  have HA := Lib.hid (fun w1 hb => EqualAttrs_calls w1 va1 va2 a1 a2 ((ha1.below attrE_keeps (w' := w1) hb (Nat.le_refl _)).mono attrE_keeps hb.size) ((ha2.below attrE_keeps (w' := w1) hb (Nat.le_refl _)).mono attrE_keeps hb.size))
  have HC := Lib.hid (fun w1 hb => EqualInts_calls w1 vc1 vc2 c1 c2 ((hc1.below (intE_keeps _) (w' := w1) hb (Nat.le_refl _)).mono (intE_keeps _) hb.size) ((hc2.below (intE_keeps _) (w' := w1) hb (Nat.le_refl _)).mono (intE_keeps _) hb.size))
  obtain ⟨A1, b1, rfl, _, _, _⟩ := ha1.form
  obtain ⟨A2, b2, rfl, _, _, _⟩ := ha2.form
  obtain ⟨C1, d1, rfl, _, _, _⟩ := hc1.form
  obtain ⟨C2, d2, rfl, _, _, _⟩ := hc2.form
  rw [node_eq]
  clear ha1 ha2 hc1 hc2
  generalize decide (a1 = a2) = ba at *
  generalize decide (c1 = c2) = bc at *
  go_enter Try.func61, Try.ntmps61
  go_wp2_with (first
    | (go_at_call 62; refine (HA.out _ (((Below.refl _ _).alloc (Nat.le_refl _) _).alloc (by simp) _)).mono ?_; rintro e w5 ⟨rfl, hb5⟩; have Hb5 := Lib.hid (bthen (((Below.refl w.heap.size w).alloc (Nat.le_refl _) _).alloc (by simp) _) hb5); have gc1 := cell_grow hb5 (cell_at2 w _ _ _ _ 5 _ rfl); have gc2 := cell_grow hb5 (cell_at1 w _ _ _ _ 5 _ rfl); have gc3 := cell_grow hb5 (cell_at2 w _ _ _ _ 4 _ rfl); have gc4 := cell_grow hb5 (cell_at1 w _ _ _ _ 4 _ rfl); clear hb5)
    | (go_at_call 63; with_reducible refine (HC.out _ Hb5.out).mono ?_; rintro e w6 ⟨rfl, hb6⟩; have Hb6 := Lib.hid (bthen Hb5.out hb6); clear hb6))
  all_goals
    go_ret
    refine ⟨ret_bool ?_, by first | exact Hb6.out | exact Hb5.out | exact ((Below.refl _ _).alloc (Nat.le_refl _) _).alloc (by simp) _⟩
    rw [Bool.eq_iff_iff]
    simp_all
set_option maxRecDepth 100000 in
set_option maxHeartbeats 4000000 in
theorem refNode_calls (w : World) (k1 k2 p1 p2 : Int) (n1 n2 t1 t2 : ByteArray) (a1 a2 : List Av) (c1 c2 : List Int) (va1 vc1 va2 vc2 : Value)
    (ha1 : RdL attrE 2 w.heap.size w va1 a1) (ha2 : RdL attrE 2 w.heap.size w va2 a2) (hc1 : RdL (intE .i64) 1 w.heap.size w vc1 c1) (hc2 : RdL (intE .i64) 1 w.heap.size w vc2 c2) :
    Calls Try.prog 64 #[.agg #[.int .i64 k1, .string n1, .string t1, va1, .int .i64 p1, vc1], .agg #[.int .i64 k2, .string n2, .string t2, va2, .int .i64 p2, vc2]] w fun e w' =>
      e = .returned (.bool (decide ((⟨k1, n1, t1, a1, p1, c1⟩ : Nd) = ⟨k2, n2, t2, a2, p2, c2⟩))) ∧ Below w.heap.size w w' := by
  have HA := Lib.hid (fun w1 hb => RefAttrs_calls w1 va1 va2 a1 a2 ((ha1.below attrE_keeps (w' := w1) hb (Nat.le_refl _)).mono attrE_keeps hb.size) ((ha2.below attrE_keeps (w' := w1) hb (Nat.le_refl _)).mono attrE_keeps hb.size))
  have HC := Lib.hid (fun w1 hb => RefInts_calls w1 vc1 vc2 c1 c2 ((hc1.below (intE_keeps _) (w' := w1) hb (Nat.le_refl _)).mono (intE_keeps _) hb.size) ((hc2.below (intE_keeps _) (w' := w1) hb (Nat.le_refl _)).mono (intE_keeps _) hb.size))
  obtain ⟨A1, b1, rfl, _, _, _⟩ := ha1.form
  obtain ⟨A2, b2, rfl, _, _, _⟩ := ha2.form
  obtain ⟨C1, d1, rfl, _, _, _⟩ := hc1.form
  obtain ⟨C2, d2, rfl, _, _, _⟩ := hc2.form
  rw [node_eq]
  clear ha1 ha2 hc1 hc2
  generalize decide (a1 = a2) = ba at *
  generalize decide (c1 = c2) = bc at *
  go_enter Try.func64, Try.ntmps64
  go_wp2_with (first
    | (go_at_call 86; refine (HA.out _ (((Below.refl _ _).alloc (Nat.le_refl _) _).alloc (by simp) _)).mono ?_; rintro e w5 ⟨rfl, hb5⟩; have Hb5 := Lib.hid (bthen (((Below.refl w.heap.size w).alloc (Nat.le_refl _) _).alloc (by simp) _) hb5); have gc1 := cell_grow hb5 (cell_at2 w _ _ _ _ 5 _ rfl); have gc2 := cell_grow hb5 (cell_at1 w _ _ _ _ 5 _ rfl); have gc3 := cell_grow hb5 (cell_at2 w _ _ _ _ 4 _ rfl); have gc4 := cell_grow hb5 (cell_at1 w _ _ _ _ 4 _ rfl); clear hb5)
    | (go_at_call 51; with_reducible refine (HC.out _ Hb5.out).mono ?_; rintro e w6 ⟨rfl, hb6⟩; have Hb6 := Lib.hid (bthen Hb5.out hb6); clear hb6))
  all_goals
    go_ret
    refine ⟨ret_bool ?_, by first | exact Hb6.out | exact Hb5.out | exact ((Below.refl _ _).alloc (Nat.le_refl _) _).alloc (by simp) _⟩
    rw [Bool.eq_iff_iff]
    simp_all
end Go.Proofs.Ytbbompmpecblgaa.FSameN
