/- Joined by a program: Bnd7, FSameN, FSameF, FSameR, R2N, APlainB, R5A, R7W. -/
import Derived.Test.YthdenkkllpkplaaGreatC14
import Derived.Test.YthdenkkllpkplaaGreatC06
import Derived.Test.YthdenkkllpkplaaGreatC03
section
/- treillagelaw07.bounded. -/
namespace Go.Proofs.YthdenkkllpkplaaGreat.Ap
open Go Go.RowKit Go.Proofs.YthdenkkllpkplaaGreat.Seq Go.Proofs.YthdenkkllpkplaaGreat.WS Go.Proofs.YthdenkkllpkplaaGreat.FS Go.Proofs.YthdenkkllpkplaaGreat.Mem Go.Proofs.YthdenkkllpkplaaGreat.Rd Go.Proofs.YthdenkkllpkplaaGreat.Shapes Go.Proofs.YthdenkkllpkplaaGreat.Word Go.Proofs.YthdenkkllpkplaaGreat.FFam Go.Proofs.YthdenkkllpkplaaGreat.Grown
set_option linter.unusedVariables false
set_option linter.unusedSimpArgs false
set_option maxRecDepth 100000 in
set_option maxHeartbeats 4000000 in
theorem bounded_calls (w : World) (v : Value) (l : List Opn) (h : RdO w.heap.size w v l) : Calls Tryz.prog 18 #[v] w fun e w' => e = .returned (.bool (bndO l)) ∧ w = w' := by
  obtain ⟨A0, c0, rfl, hl0, hc0, h'⟩ := h.form
  simp only [maxLen] at hc0
  have Hh := Lib.hid h'
  have hno := fun k (hk : k < l.length) hx => bndO_no (l := l) hk hx
  have Hno := Lib.hid hno
  clear h h' hno
  go_enter Tryz.func18, Tryz.ntmps18
  go_wp2_with fail
  go_loop [3] (fun i => ∃ k : Nat, k ≤ l.length ∧ i = .int .i64 k ∧ Hid ((l.take k).all opB = true)) (fun i => l.length - (intOf i).toNat)
  case atStart => exact ⟨0, Nat.zero_le _, rfl, Lib.hid rfl⟩
  case round =>
    obtain ⟨k, hk, rfl, hall⟩ := hrel
    by_cases hlt : k < l.length
    · obtain ⟨b, o, rfl, hbl, _, _, _, _, g4, g5, m1, m2, _, _⟩ := op_at Hh.out hlt
      have hno := Hno.out k hlt
      have htk : l.take (k + 1) = l.take k ++ [l[k]] := List.take_succ_eq_append_getElem hlt
      have hallk : opB l[k] = true → (l.take (k + 1)).all opB = true := fun hx => by rw [htk, List.all_append, hall.out]; simp [hx]
      have Hallk := Lib.hid hallk; have Hn := Lib.hid hno
      clear hallk hno htk hall m1 m2
      generalize l[k] = x at *
      by_cases h1 : x.name.size ≤ 300
      · by_cases h2 : x.text.size ≤ 300
        · have hx : opB x = true := by unfold opB; rw [decide_eq_true h1, decide_eq_true h2]; rfl
          have Hx := Lib.hid hx
          clear hx
          go_wp2_with fail
          go_round
          case rel => exact ⟨k + 1, by omega, by go_num, Lib.hid (Hallk.out Hx.out)⟩
          case measure => simp [intOf]; omega
        · have hx : opB x = false := by unfold opB; rw [decide_eq_false h2]; simp
          have Hx := Lib.hid hx
          clear hx
          go_wp2_with fail
          go_ret
          exact ⟨by rw [Hn.out Hx.out]; rfl, rfl⟩
      · have hx : opB x = false := by unfold opB; rw [decide_eq_false h1]; rfl
        have Hx := Lib.hid hx
        clear hx
        go_wp2_with fail
        go_ret
        exact ⟨by rw [Hn.out Hx.out]; rfl, rfl⟩
    · have hr : bndO l = decide ((l.length : Int) ≤ 150) := by
        unfold bndO
        have := hall.out
        rw [List.take_of_length_le (by omega)] at this
        rw [this, Bool.true_and]
        rw [Bool.eq_iff_iff]; simp; try omega
      have Hr := Lib.hid hr
      clear hr hall
      go_wp2_with fail
      go_ret
      exact ⟨by rw [Hr.out]; rfl, rfl⟩
end Go.Proofs.YthdenkkllpkplaaGreat.Ap
end
section
/- Equality of nodes, of forests. -/
namespace Go.Proofs.YthdenkkllpkplaaGreat.FSameN
open Go Go.RowKit Go.Proofs.YthdenkkllpkplaaGreat.Seq Go.Proofs.YthdenkkllpkplaaGreat.WS Go.Proofs.YthdenkkllpkplaaGreat.FS Go.Proofs.YthdenkkllpkplaaGreat.WordIt Go.Proofs.YthdenkkllpkplaaGreat.Mem Go.Proofs.YthdenkkllpkplaaGreat.Rd Go.Proofs.YthdenkkllpkplaaGreat.Word Go.Proofs.YthdenkkllpkplaaGreat.WordHas Go.Proofs.YthdenkkllpkplaaGreat.Shapes Go.Proofs.YthdenkkllpkplaaGreat.FFam Go.Proofs.YthdenkkllpkplaaGreat.FMay Go.Proofs.YthdenkkllpkplaaGreat.FSame
set_option linter.unusedVariables false
set_option linter.unusedSimpArgs false

theorem node_eq (k1 k2 p1 p2 : Int) (n1 n2 t1 t2 : ByteArray) (a1 a2 : List Av) (c1 c2 : List Int) :
    decide ((⟨k1, n1, t1, a1, p1, c1⟩ : Nd) = ⟨k2, n2, t2, a2, p2, c2⟩) = ((k1 == k2) && (n1.toList == n2.toList) && (t1.toList == t2.toList) && (p1 == p2) && decide (a1 = a2) && decide (c1 = c2)) := by
  rw [Bool.eq_iff_iff]
  simp only [Nd.mk.injEq, decide_eq_true_eq, Bool.and_eq_true, beq_iff_eq, str_inj]
  constructor
  · rintro ⟨h1, h2, h3, h4, h5, h6⟩; exact ⟨⟨⟨⟨⟨h1, h2⟩, h3⟩, h5⟩, h4⟩, h6⟩
  · rintro ⟨⟨⟨⟨⟨h1, h2⟩, h3⟩, h5⟩, h4⟩, h6⟩; exact ⟨h1, h2, h3, h4, h5, h6⟩
theorem cell_at1 (w : World) (cs cs' : Array Value) (t t' : TypeId) (j : Nat) (u : Value) (h : cs[j]? = some u) : ((w.alloc (.cells cs t)).alloc (.cells cs' t')).cell? ⟨w.heap.size, j, none⟩ = some u := by
  rw [World.cell?_alloc_lt _ _ _ (by simp), cell_of_row _ _ _ _ t (0, 0) (heap_alloc_new w _)]; exact h
theorem cell_at2 (w : World) (cs cs' : Array Value) (t t' : TypeId) (j : Nat) (u : Value) (h : cs'[j]? = some u) : ((w.alloc (.cells cs t)).alloc (.cells cs' t')).cell? ⟨w.heap.size + 1, j, none⟩ = some u := by
  have := cell_of_row ((w.alloc (.cells cs t)).alloc (.cells cs' t')) (w.alloc (.cells cs t)).heap.size j cs' t' (0, 0) (heap_alloc_new _ _)
  rw [show (w.alloc (.cells cs t)).heap.size = w.heap.size + 1 by simp] at this
  rw [this]; exact h
set_option maxRecDepth 100000 in
set_option maxHeartbeats 4000000 in
theorem same1_calls (w : World) (k1 k2 p1 p2 : Int) (n1 n2 t1 t2 : ByteArray) (a1 a2 : List Av) (c1 c2 : List Int) (va1 vc1 va2 vc2 : Value)
    (ha1 : RdL attrE 2 w.heap.size w va1 a1) (ha2 : RdL attrE 2 w.heap.size w va2 a2) (hc1 : RdL (intE .i64) 1 w.heap.size w vc1 c1) (hc2 : RdL (intE .i64) 1 w.heap.size w vc2 c2) :
    Calls Tryz.prog 73 #[.agg #[.int .i64 k1, .string n1, .string t1, va1, .int .i64 p1, vc1], .agg #[.int .i64 k2, .string n2, .string t2, va2, .int .i64 p2, vc2]] w fun e w' =>
      e = .returned (.bool (decide ((⟨k1, n1, t1, a1, p1, c1⟩ : Nd) = ⟨k2, n2, t2, a2, p2, c2⟩))) ∧ Below w.heap.size w w' := by
  have HA := Lib.hid (fun w1 hb => EqualAttrs_calls w1 va1 va2 a1 a2 ((ha1.below attrE_keeps (w' := w1) hb (Nat.le_refl _)).mono attrE_keeps hb.size) ((ha2.below attrE_keeps (w' := w1) hb (Nat.le_refl _)).mono attrE_keeps hb.size))
  have HC := Lib.hid (fun w1 hb => EqualInts_calls w1 vc1 vc2 c1 c2 ((hc1.below (intE_keeps _) (w' := w1) hb (Nat.le_refl _)).mono (intE_keeps _) hb.size) ((hc2.below (intE_keeps _) (w' := w1) hb (Nat.le_refl _)).mono (intE_keeps _) hb.size))
  obtain ⟨A1, b1, rfl, _, _, _⟩ := ha1.form
  obtain ⟨A2, b2, rfl, _, _, _⟩ := ha2.form
  obtain ⟨C1, d1, rfl, _, _, _⟩ := hc1.form
  obtain ⟨C2, d2, rfl, _, _, _⟩ := hc2.form
  rw [node_eq]
  clear ha1 ha2 hc1 hc2
  generalize decide (a1 = a2) = ba at *
  generalize decide (c1 = c2) = bc at *
  go_enter Tryz.func73, Tryz.ntmps73
  go_wp2_with (first
    | (go_at_call 74; refine (HA.out _ (((Below.refl _ _).alloc (Nat.le_refl _) _).alloc (by simp) _)).mono ?_; rintro e w5 ⟨rfl, hb5⟩; have Hb5 := Lib.hid (bthen (((Below.refl w.heap.size w).alloc (Nat.le_refl _) _).alloc (by simp) _) hb5); have gc1 := cell_grow hb5 (cell_at2 w _ _ _ _ 5 _ rfl); have gc2 := cell_grow hb5 (cell_at1 w _ _ _ _ 5 _ rfl); have gc3 := cell_grow hb5 (cell_at2 w _ _ _ _ 4 _ rfl); have gc4 := cell_grow hb5 (cell_at1 w _ _ _ _ 4 _ rfl); clear hb5)
    | (go_at_call 75; with_reducible refine (HC.out _ Hb5.out).mono ?_; rintro e w6 ⟨rfl, hb6⟩; have Hb6 := Lib.hid (bthen Hb5.out hb6); clear hb6))
  all_goals
    go_ret
    refine ⟨ret_bool ?_, by first | exact Hb6.out | exact Hb5.out | exact ((Below.refl _ _).alloc (Nat.le_refl _) _).alloc (by simp) _⟩
    rw [Bool.eq_iff_iff]
    simp_all
set_option maxRecDepth 100000 in
set_option maxHeartbeats 4000000 in
theorem refNode_calls (w : World) (k1 k2 p1 p2 : Int) (n1 n2 t1 t2 : ByteArray) (a1 a2 : List Av) (c1 c2 : List Int) (va1 vc1 va2 vc2 : Value)
    (ha1 : RdL attrE 2 w.heap.size w va1 a1) (ha2 : RdL attrE 2 w.heap.size w va2 a2) (hc1 : RdL (intE .i64) 1 w.heap.size w vc1 c1) (hc2 : RdL (intE .i64) 1 w.heap.size w vc2 c2) :
    Calls Tryz.prog 68 #[.agg #[.int .i64 k1, .string n1, .string t1, va1, .int .i64 p1, vc1], .agg #[.int .i64 k2, .string n2, .string t2, va2, .int .i64 p2, vc2]] w fun e w' =>
      e = .returned (.bool (decide ((⟨k1, n1, t1, a1, p1, c1⟩ : Nd) = ⟨k2, n2, t2, a2, p2, c2⟩))) ∧ Below w.heap.size w w' := by
  have HA := Lib.hid (fun w1 hb => RefAttrs_calls w1 va1 va2 a1 a2 ((ha1.below attrE_keeps (w' := w1) hb (Nat.le_refl _)).mono attrE_keeps hb.size) ((ha2.below attrE_keeps (w' := w1) hb (Nat.le_refl _)).mono attrE_keeps hb.size))
  have HC := Lib.hid (fun w1 hb => RefInts_calls w1 vc1 vc2 c1 c2 ((hc1.below (intE_keeps _) (w' := w1) hb (Nat.le_refl _)).mono (intE_keeps _) hb.size) ((hc2.below (intE_keeps _) (w' := w1) hb (Nat.le_refl _)).mono (intE_keeps _) hb.size))
  obtain ⟨A1, b1, rfl, _, _, _⟩ := ha1.form
  obtain ⟨A2, b2, rfl, _, _, _⟩ := ha2.form
  obtain ⟨C1, d1, rfl, _, _, _⟩ := hc1.form
  obtain ⟨C2, d2, rfl, _, _, _⟩ := hc2.form
  rw [node_eq]
  clear ha1 ha2 hc1 hc2
  generalize decide (a1 = a2) = ba at *
  generalize decide (c1 = c2) = bc at *
  go_enter Tryz.func68, Tryz.ntmps68
  go_wp2_with (first
    | (go_at_call 136; refine (HA.out _ (((Below.refl _ _).alloc (Nat.le_refl _) _).alloc (by simp) _)).mono ?_; rintro e w5 ⟨rfl, hb5⟩; have Hb5 := Lib.hid (bthen (((Below.refl w.heap.size w).alloc (Nat.le_refl _) _).alloc (by simp) _) hb5); have gc1 := cell_grow hb5 (cell_at2 w _ _ _ _ 5 _ rfl); have gc2 := cell_grow hb5 (cell_at1 w _ _ _ _ 5 _ rfl); have gc3 := cell_grow hb5 (cell_at2 w _ _ _ _ 4 _ rfl); have gc4 := cell_grow hb5 (cell_at1 w _ _ _ _ 4 _ rfl); clear hb5)
    | (go_at_call 41; with_reducible refine (HC.out _ Hb5.out).mono ?_; rintro e w6 ⟨rfl, hb6⟩; have Hb6 := Lib.hid (bthen Hb5.out hb6); clear hb6))
  all_goals
    go_ret
    refine ⟨ret_bool ?_, by first | exact Hb6.out | exact Hb5.out | exact ((Below.refl _ _).alloc (Nat.le_refl _) _).alloc (by simp) _⟩
    rw [Bool.eq_iff_iff]
    simp_all
end Go.Proofs.YthdenkkllpkplaaGreat.FSameN
end
section
/- Equality of forests. -/
namespace Go.Proofs.YthdenkkllpkplaaGreat.FSameF
open Go Go.RowKit Go.Proofs.YthdenkkllpkplaaGreat.Seq Go.Proofs.YthdenkkllpkplaaGreat.WS Go.Proofs.YthdenkkllpkplaaGreat.FS Go.Proofs.YthdenkkllpkplaaGreat.WordIt Go.Proofs.YthdenkkllpkplaaGreat.Mem Go.Proofs.YthdenkkllpkplaaGreat.Rd Go.Proofs.YthdenkkllpkplaaGreat.Word Go.Proofs.YthdenkkllpkplaaGreat.WordHas Go.Proofs.YthdenkkllpkplaaGreat.Shapes Go.Proofs.YthdenkkllpkplaaGreat.FFam Go.Proofs.YthdenkkllpkplaaGreat.FMay Go.Proofs.YthdenkkllpkplaaGreat.FSame Go.Proofs.YthdenkkllpkplaaGreat.FSameN
set_option linter.unusedVariables false
set_option linter.unusedSimpArgs false

set_option maxRecDepth 100000 in
set_option maxHeartbeats 4000000 in
theorem EqualFunc_calls (w : World) (v1 v2 : Value) (a b : Fo) (h1 : RdF w.heap.size w v1 a) (h2 : RdF w.heap.size w v2 b) :
    Calls Tryz.prog 72 #[v1, v2, .func (.func 73) #[] #[]] w fun e w' => e = .returned (.bool (decide (a = b))) ∧ Below w.heap.size w w' := by
  have HR1 := Lib.hid (fun w' hb => h1.below nodeE_keeps (w' := w') hb (Nat.le_refl _))
  have HR2 := Lib.hid (fun w' hb => h2.below nodeE_keeps (w' := w') hb (Nat.le_refl _))
  obtain ⟨A1, c1, rfl, l1, m1, _⟩ := h1.form
  obtain ⟨A2, c2, rfl, l2, m2, _⟩ := h2.form
  simp only [maxLen] at m1 m2
  clear h1 h2
  by_cases hl : a.length = b.length
  case neg =>
    have hr := list_ne_len hl
    have e1 : ((a.length : Int) == (b.length : Int)) = false := by rw [beq_eq_false_iff_ne]; omega
    have e2 : ((a.length : Int) != (b.length : Int)) = true := by rw [bne_iff_ne]; omega
    have Hr := Lib.hid hr; clear hr hl
    go_enter Tryz.func72, Tryz.ntmps72
    go_wp2_with fail
    go_ret
    exact ⟨ret_bool Hr.out.symm, Below.refl _ _⟩
  case pos =>
    have e1 : ((a.length : Int) == (b.length : Int)) = true := by rw [beq_iff_eq]; omega
    have e2 : ((a.length : Int) != (b.length : Int)) = false := by rw [hl]; simp
    have hne := fun k ha hb h => list_ne_at (a := a) (b := b) (k := k) ha hb h
    have heq := list_eq_at (a := a) (b := b) hl
    have Hne := Lib.hid hne; have Heq := Lib.hid heq
    clear hne heq
    go_enter Tryz.func72, Tryz.ntmps72
    have Hl := Lib.hid hl; clear hl
    go_wp2_with fail
    clear e1 e2
    go_loopw [17] (fun i wr => ∃ k : Nat, k ≤ a.length ∧ i = .int .i64 k ∧ Below w.heap.size w wr ∧ ∀ j (ha : j < a.length) (hb : j < b.length), j < k → a[j] = b[j]) (fun i _ => a.length - (intOf i).toNat)
    case atStart => exact ⟨0, Nat.zero_le _, rfl, Below.refl _ _, fun j _ _ h => by omega⟩
    case round =>
      obtain ⟨k, hk, rfl, hb, hall⟩ := hrel
      by_cases hlt : k < a.length
      · have hltb : k < b.length := by rw [← Hl.out]; exact hlt
        obtain ⟨b1, o1, Aa, ca, Ak, ck, he1, hbl1, g0, g1, g2, g3, g4, g5, ra, rk, la, lca, lk, lck, _⟩ := node_at (HR1.out _ hb) hlt
        obtain ⟨b2, o2, Ba, da, Bk, dk, he2, hbl2, f0, f1, f2, f3, f4, f5, sa, sk, _⟩ := node_at (HR2.out _ hb) hltb
        subst he1
        subst he2
        have hnx : a[k] = b[k] → ∀ j (ha : j < a.length) (hb : j < b.length), j < k + 1 → a[j] = b[j] := fun h j ha hb hj => by
          by_cases e : j = k
          · subst e; exact h
          · exact hall j ha hb (by omega)
        have hno := Hne.out k hlt hltb
        have hsz := hb.size
        generalize hx : a[k] = x at *
        generalize hy : b[k] = y at *
        obtain ⟨k1, n1, t1, a1, p1, cc1⟩ := x
        obtain ⟨k2, n2, t2, a2, p2, cc2⟩ := y
        simp only at *
        have fa : ∀ (o : Obj) (j : Nat) (u : Value), wr.cell? ⟨b2, j, none⟩ = some u → (wr.alloc o).cell? ⟨b2, j, none⟩ = some u := fun o j u h => cell_alloc h o
        have f0 := fun o => fa o _ _ f0
        have f1 := fun o => fa o _ _ f1
        have f2 := fun o => fa o _ _ f2
        have f3 := fun o => fa o _ _ f3
        have f4 := fun o => fa o _ _ f4
        have f5 := fun o => fa o _ _ f5
        clear fa
        have hs : ∀ w1, Below wr.heap.size wr w1 → Calls Tryz.prog 73 #[.agg #[.int .i64 k1, .string n1, .string t1, .slice Aa a1.length ca, .int .i64 p1, .slice Ak cc1.length ck], .agg #[.int .i64 k2, .string n2, .string t2, .slice Ba a2.length da, .int .i64 p2, .slice Bk cc2.length dk]] w1 fun e w' =>
            e = .returned (.bool (decide ((⟨k1, n1, t1, a1, p1, cc1⟩ : Nd) = ⟨k2, n2, t2, a2, p2, cc2⟩))) ∧ Below w1.heap.size w1 w' := fun w1 hw1 =>
          same1_calls w1 k1 k2 p1 p2 n1 n2 t1 t2 a1 a2 cc1 cc2 _ _ _ _ (((ra.mono attrE_keeps hsz).keep attrE_keeps hw1 (Nat.le_refl _)).mono attrE_keeps hw1.size) (((sa.mono attrE_keeps hsz).keep attrE_keeps hw1 (Nat.le_refl _)).mono attrE_keeps hw1.size)
            (((rk.mono (intE_keeps _) hsz).keep (intE_keeps _) hw1 (Nat.le_refl _)).mono (intE_keeps _) hw1.size) (((sk.mono (intE_keeps _) hsz).keep (intE_keeps _) hw1 (Nat.le_refl _)).mono (intE_keeps _) hw1.size)
        by_cases hxy : (⟨k1, n1, t1, a1, p1, cc1⟩ : Nd) = ⟨k2, n2, t2, a2, p2, cc2⟩
        · rw [decide_eq_true hxy] at hs
          have Hs := Lib.hid hs; have Hb := Lib.hid hb; have Hnx := Lib.hid (hnx hxy)
          clear hs hb hall hnx hno hxy hx hy ra rk sa sk
          go_wp2_with (go_at_call 73; refine (Hs.out _ (((Below.refl _ _).alloc (Nat.le_refl _) _).alloc (by simp) _)).mono ?_; rintro e w5 ⟨rfl, hb5⟩; have Hb5 := Lib.hid (bthen (((Below.refl wr.heap.size wr).alloc (Nat.le_refl _) _).alloc (by simp) _) hb5); clear hb5)
          go_roundw
          case rel => exact ⟨k + 1, by omega, by go_num, bthen Hb.out Hb5.out, Hnx.out⟩
          case measure => simp [intOf]; omega
        · rw [decide_eq_false hxy] at hs
          have Hs := Lib.hid hs; have Hb := Lib.hid hb; have Hno := Lib.hid (hno hxy)
          clear hs hb hall hnx hno hxy hx hy ra rk sa sk
          go_wp2_with (go_at_call 73; refine (Hs.out _ (((Below.refl _ _).alloc (Nat.le_refl _) _).alloc (by simp) _)).mono ?_; rintro e w5 ⟨rfl, hb5⟩; have Hb5 := Lib.hid (bthen (((Below.refl wr.heap.size wr).alloc (Nat.le_refl _) _).alloc (by simp) _) hb5); clear hb5)
          go_ret
          exact ⟨ret_bool Hno.out.symm, bthen Hb.out Hb5.out⟩
      · have hr := Heq.out (fun j ha hb => hall j ha hb (by omega))
        have Hr := Lib.hid hr; have Hb := Lib.hid hb
        clear hb hall hr
        obtain rfl : k = a.length := by omega
        go_wp2_with fail
        go_ret
        exact ⟨ret_bool Hr.out.symm, Hb.out⟩
theorem Same_calls (w : World) (v1 v2 : Value) (a b : Fo) (h1 : RdF w.heap.size w v1 a) (h2 : RdF w.heap.size w v2 b) :
    Calls Tryz.prog 28 #[v1, v2] w fun e w' => e = .returned (.bool (decide (a = b))) ∧ Below w.heap.size w w' := by
  have hE := EqualFunc_calls w v1 v2 a b h1 h2
  obtain ⟨A1, c1, rfl, _, _, _⟩ := h1.form
  obtain ⟨A2, c2, rfl, _, _, _⟩ := h2.form
  have HE := Lib.hid hE
  clear hE h1 h2
  go_enter Tryz.func28, Tryz.ntmps28
  go_wp2_with (go_at_call 72; refine (HE.out).mono ?_; rintro e w5 ⟨rfl, hb5⟩)
  go_ret
  exact ⟨rfl, hb5⟩
end Go.Proofs.YthdenkkllpkplaaGreat.FSameF
end
section
/- Equality of forests. -/
namespace Go.Proofs.YthdenkkllpkplaaGreat.FSameR
open Go Go.RowKit Go.Proofs.YthdenkkllpkplaaGreat.Seq Go.Proofs.YthdenkkllpkplaaGreat.WS Go.Proofs.YthdenkkllpkplaaGreat.FS Go.Proofs.YthdenkkllpkplaaGreat.WordIt Go.Proofs.YthdenkkllpkplaaGreat.Mem Go.Proofs.YthdenkkllpkplaaGreat.Rd Go.Proofs.YthdenkkllpkplaaGreat.Word Go.Proofs.YthdenkkllpkplaaGreat.WordHas Go.Proofs.YthdenkkllpkplaaGreat.Shapes Go.Proofs.YthdenkkllpkplaaGreat.FFam Go.Proofs.YthdenkkllpkplaaGreat.FMay Go.Proofs.YthdenkkllpkplaaGreat.FSame Go.Proofs.YthdenkkllpkplaaGreat.FSameN
set_option linter.unusedVariables false
set_option linter.unusedSimpArgs false

set_option maxRecDepth 100000 in
set_option maxHeartbeats 4000000 in
theorem RefSame_calls (w : World) (v1 v2 : Value) (a b : Fo) (h1 : RdF w.heap.size w v1 a) (h2 : RdF w.heap.size w v2 b) :
    Calls Tryz.prog 25 #[v1, v2] w fun e w' => e = .returned (.bool (decide (a = b))) ∧ Below w.heap.size w w' := by
  have HR1 := Lib.hid (fun w' hb => h1.below nodeE_keeps (w' := w') hb (Nat.le_refl _))
  have HR2 := Lib.hid (fun w' hb => h2.below nodeE_keeps (w' := w') hb (Nat.le_refl _))
  obtain ⟨A1, c1, rfl, l1, m1, _⟩ := h1.form
  obtain ⟨A2, c2, rfl, l2, m2, _⟩ := h2.form
  simp only [maxLen] at m1 m2
  clear h1 h2
  by_cases hl : a.length = b.length
  case neg =>
    have hr := list_ne_len hl
    have e1 : ((a.length : Int) == (b.length : Int)) = false := by rw [beq_eq_false_iff_ne]; omega
    have e2 : ((a.length : Int) != (b.length : Int)) = true := by rw [bne_iff_ne]; omega
    have Hr := Lib.hid hr; clear hr hl
    go_enter Tryz.func25, Tryz.ntmps25
    go_wp2_with fail
    go_ret
    exact ⟨ret_bool Hr.out.symm, Below.refl _ _⟩
  case pos =>
    have e1 : ((a.length : Int) == (b.length : Int)) = true := by rw [beq_iff_eq]; omega
    have e2 : ((a.length : Int) != (b.length : Int)) = false := by rw [hl]; simp
    have hne := fun k ha hb h => list_ne_at (a := a) (b := b) (k := k) ha hb h
    have heq := list_eq_at (a := a) (b := b) hl
    have Hne := Lib.hid hne; have Heq := Lib.hid heq
    clear hne heq
    go_enter Tryz.func25, Tryz.ntmps25
    have Hl := Lib.hid hl; clear hl
    go_wp2_with fail
    clear e1 e2
    go_loopw [5] (fun i wr => ∃ k : Nat, k ≤ a.length ∧ i = .int .i64 k ∧ Below w.heap.size w wr ∧ ∀ j (ha : j < a.length) (hb : j < b.length), j < k → a[j] = b[j]) (fun i _ => a.length - (intOf i).toNat)
    case atStart => exact ⟨0, Nat.zero_le _, rfl, Below.refl _ _, fun j _ _ h => by omega⟩
    case round =>
      obtain ⟨k, hk, rfl, hb, hall⟩ := hrel
      by_cases hlt : k < a.length
      · have hltb : k < b.length := by rw [← Hl.out]; exact hlt
        obtain ⟨b1, o1, Aa, ca, Ak, ck, he1, hbl1, g0, g1, g2, g3, g4, g5, ra, rk, la, lca, lk, lck, _⟩ := node_at (HR1.out _ hb) hlt
        obtain ⟨b2, o2, Ba, da, Bk, dk, he2, hbl2, f0, f1, f2, f3, f4, f5, sa, sk, _⟩ := node_at (HR2.out _ hb) hltb
        subst he1
        subst he2
        have hnx : a[k] = b[k] → ∀ j (ha : j < a.length) (hb : j < b.length), j < k + 1 → a[j] = b[j] := fun h j ha hb hj => by
          by_cases e : j = k
          · subst e; exact h
          · exact hall j ha hb (by omega)
        have hno := Hne.out k hlt hltb
        have hsz := hb.size
        generalize hx : a[k] = x at *
        generalize hy : b[k] = y at *
        obtain ⟨k1, n1, t1, a1, p1, cc1⟩ := x
        obtain ⟨k2, n2, t2, a2, p2, cc2⟩ := y
        simp only at *
        have hs : ∀ w1, Below wr.heap.size wr w1 → Calls Tryz.prog 68 #[.agg #[.int .i64 k1, .string n1, .string t1, .slice Aa a1.length ca, .int .i64 p1, .slice Ak cc1.length ck], .agg #[.int .i64 k2, .string n2, .string t2, .slice Ba a2.length da, .int .i64 p2, .slice Bk cc2.length dk]] w1 fun e w' =>
            e = .returned (.bool (decide ((⟨k1, n1, t1, a1, p1, cc1⟩ : Nd) = ⟨k2, n2, t2, a2, p2, cc2⟩))) ∧ Below w1.heap.size w1 w' := fun w1 hw1 =>
          refNode_calls w1 k1 k2 p1 p2 n1 n2 t1 t2 a1 a2 cc1 cc2 _ _ _ _ (((ra.mono attrE_keeps hsz).keep attrE_keeps hw1 (Nat.le_refl _)).mono attrE_keeps hw1.size) (((sa.mono attrE_keeps hsz).keep attrE_keeps hw1 (Nat.le_refl _)).mono attrE_keeps hw1.size)
            (((rk.mono (intE_keeps _) hsz).keep (intE_keeps _) hw1 (Nat.le_refl _)).mono (intE_keeps _) hw1.size) (((sk.mono (intE_keeps _) hsz).keep (intE_keeps _) hw1 (Nat.le_refl _)).mono (intE_keeps _) hw1.size)
        by_cases hxy : (⟨k1, n1, t1, a1, p1, cc1⟩ : Nd) = ⟨k2, n2, t2, a2, p2, cc2⟩
        · rw [decide_eq_true hxy] at hs
          have Hs := Lib.hid hs; have Hb := Lib.hid hb; have Hnx := Lib.hid (hnx hxy)
          clear hs hb hall hnx hno hxy hx hy ra rk sa sk
          go_wp2_with fail
          go_region_with (go_at_call 68; (first | refine (Hs.out _ (Below.refl _ _)).mono ?_ | refine (Hs.out _ (Below.refl _ _).drew).mono ?_); rintro e w5 ⟨rfl, hb5⟩; have Hb5 := Lib.hid hb5; clear hb5)
          all_goals go_wp2_with fail
          all_goals
            go_roundw
            case rel => exact ⟨k + 1, by omega, by go_num, by (first | exact bthen Hb.out Hb5.out | exact bthen Hb.out.drew Hb5.out | exact (bthen Hb.out Hb5.out).drew | exact (bthen Hb.out.drew Hb5.out).drew), Hnx.out⟩
            case measure => simp [intOf]; omega
        · rw [decide_eq_false hxy] at hs
          have Hs := Lib.hid hs; have Hb := Lib.hid hb; have Hno := Lib.hid (hno hxy)
          clear hs hb hall hnx hno hxy hx hy ra rk sa sk
          go_wp2_with fail
          go_region_with (go_at_call 68; (first | refine (Hs.out _ (Below.refl _ _)).mono ?_ | refine (Hs.out _ (Below.refl _ _).drew).mono ?_); rintro e w5 ⟨rfl, hb5⟩; have Hb5 := Lib.hid hb5; clear hb5)
          all_goals go_wp2_with fail
          all_goals
            go_ret
            exact ⟨ret_bool Hno.out.symm, by (first | exact bthen Hb.out Hb5.out | exact bthen Hb.out.drew Hb5.out | exact (bthen Hb.out Hb5.out).drew | exact (bthen Hb.out.drew Hb5.out).drew)⟩
      · have hr := Heq.out (fun j ha hb => hall j ha hb (by omega))
        have Hr := Lib.hid hr; have Hb := Lib.hid hb
        clear hb hall hr
        obtain rfl : k = a.length := by omega
        go_wp2_with fail
        go_ret
        exact ⟨ret_bool Hr.out.symm, Hb.out⟩
end Go.Proofs.YthdenkkllpkplaaGreat.FSameR
end
section
/- treillageref02: letter, Name, Text. -/
namespace Go.Proofs.YthdenkkllpkplaaGreat.R2
open Go Go.RowKit Go.Proofs.YthdenkkllpkplaaGreat.WS Go.Proofs.YthdenkkllpkplaaGreat.Word
set_option linter.unusedVariables false
set_option linter.unusedSimpArgs false
theorem letter_calls (b : UInt8) (w : World) : Calls Tryz.prog 133 #[.int .u8 (b.toNat : Int)] w fun e w' => e = .returned (.bool (letterB b)) ∧ w = w' := by
  obtain ⟨n, hn⟩ : ∃ n : Nat, n = b.toNat := ⟨_, rfl⟩
  have hl : letterB b = ((decide (65 ≤ n) && decide (n ≤ 90)) || (decide (97 ≤ n) && decide (n ≤ 122))) := by rw [hn]; rfl
  rw [hl, ← hn]
  clear hl hn
  have hx : (97 ≤ n ∧ n ≤ 122) ∨ (65 ≤ n ∧ n ≤ 90) ∨ n < 65 ∨ (90 < n ∧ n < 97) ∨ 122 < n := by omega
  rcases hx with ⟨h1, h2⟩ | ⟨h1, h2⟩ | h1 | ⟨h1, h2⟩ | h1
  · have k1 : (97 : Int) ≤ (n : Int) := by omega
    have k2 : (n : Int) ≤ 122 := by omega
    go_enter Tryz.func133, Tryz.ntmps133
    go_wp2_with fail
    go_ret
    exact ⟨ret_bool (by rw [Bool.eq_iff_iff] <;> (try simp) <;> (try omega)), rfl⟩
  · have k1 : (n : Int) < 97 := by omega
    have k2 : (65 : Int) ≤ (n : Int) := by omega
    have k3 : (n : Int) ≤ 90 := by omega
    go_enter Tryz.func133, Tryz.ntmps133
    go_wp2_with fail
    go_ret
    exact ⟨ret_bool (by rw [Bool.eq_iff_iff] <;> (try simp) <;> (try omega)), rfl⟩
  · have k1 : (n : Int) < 97 := by omega
    have k2 : (n : Int) < 65 := by omega
    go_enter Tryz.func133, Tryz.ntmps133
    go_wp2_with fail
    go_ret
    exact ⟨ret_bool (by rw [Bool.eq_iff_iff] <;> (try simp) <;> (try omega)), rfl⟩
  · have k1 : (n : Int) < 97 := by omega
    have k2 : (65 : Int) ≤ (n : Int) := by omega
    have k3 : (90 : Int) < (n : Int) := by omega
    go_enter Tryz.func133, Tryz.ntmps133
    go_wp2_with fail
    go_ret
    exact ⟨ret_bool (by rw [Bool.eq_iff_iff] <;> (try simp) <;> (try omega)), rfl⟩
  · have k1 : (97 : Int) ≤ (n : Int) := by omega
    have k2 : (122 : Int) < (n : Int) := by omega
    have k3 : (65 : Int) ≤ (n : Int) := by omega
    have k4 : (90 : Int) < (n : Int) := by omega
    go_enter Tryz.func133, Tryz.ntmps133
    go_wp2_with fail
    go_ret
    exact ⟨ret_bool (by rw [Bool.eq_iff_iff] <;> (try simp) <;> (try omega)), rfl⟩
theorem Text_calls (s : ByteArray) (w : World) : Calls Tryz.prog 62 #[.string s] w fun e w' => e = .returned (.bool (textB s.data.toList)) ∧ w = w' := by
  go_enter Tryz.func62, Tryz.ntmps62
  go_wp2
  go_ret
  exact ⟨ret_bool (by unfold textB; simp; omega), rfl⟩
theorem mark_eq (b : UInt8) (h : letterB b = false) : markB b = (decide (48 ≤ b.toNat ∧ b.toNat ≤ 57) || decide (b.toNat = 45) || decide (b.toNat = 95)) := by
  have key : ∀ n : Fin 256, letterB (UInt8.ofNat n.val) = false → markB (UInt8.ofNat n.val) = (decide (48 ≤ (UInt8.ofNat n.val).toNat ∧ (UInt8.ofNat n.val).toNat ≤ 57) || decide ((UInt8.ofNat n.val).toNat = 45) || decide ((UInt8.ofNat n.val).toNat = 95)) := by decide +kernel
  have := key ⟨b.toNat, b.toNat_lt⟩
  simpa using this (by simpa using h)
set_option maxHeartbeats 2000000 in
theorem Name_calls (s : ByteArray) (hs : s.size ≤ 9223372036854775807) (w : World) : Calls Tryz.prog 61 #[.string s] w fun e w' => e = .returned (.bool (nameB s.data.toList)) ∧ w = w' := by
  go_enter Tryz.func61, Tryz.ntmps61
  go_wp2_with fail
  go_loop [3] (fun i => ∃ k : Nat, k ≤ s.size ∧ i = .int .i64 k ∧ Hid (∀ j (hj : j < s.size), j < k → markB s[j] = true ∧ (j = 0 → letterB s[j] = true))) (fun i => s.size - (intOf i).toNat)
  case atStart => exact ⟨0, Nat.zero_le _, rfl, Lib.hid (fun j _ h => absurd h (Nat.not_lt_zero _))⟩
  case round =>
    obtain ⟨k, hk, rfl, hm⟩ := hrel
    by_cases hlt : k < s.size
    · have hnext : markB s[k] = true → (k = 0 → letterB s[k] = true) → ∀ j (hj : j < s.size), j < k + 1 → markB s[j] = true ∧ (j = 0 → letterB s[j] = true) := fun h1 h2 j hj h => by
        rcases Nat.lt_or_ge j k with h3 | h3
        · exact hm.out j hj h3
        · obtain rfl : j = k := by omega
          exact ⟨h1, h2⟩
      have hlet := letter_calls s[k]
      cases hl1 : letterB s[k] with
      | true =>
        rw [hl1] at hlet
        have hN := hnext (by unfold markB; rw [hl1]; rfl) (fun _ => hl1)
        have HN := Lib.hid hN; have Hlet := Lib.hid hlet
        clear hN hlet hnext hm hl1
        go_wp2_with (go_at_call 133; (with_reducible refine (Hlet.out _).mono ?_); rintro e w' ⟨rfl, rfl⟩)
        go_round
        case rel => exact ⟨k + 1, by omega, by go_num, HN⟩
        case measure => simp [intOf]; omega
      | false =>
        rw [hl1] at hlet
        have Hlet := Lib.hid hlet
        by_cases h0 : k = 0
        · subst h0
          have hr := name_first hlt hl1
          have Hr := Lib.hid hr
          clear hr hlet hnext hm hl1
          go_wp2_with (go_at_call 133; (with_reducible refine (Hlet.out _).mono ?_); rintro e w' ⟨rfl, rfl⟩)
          go_ret
          exact ⟨ret_bool Hr.out.symm, rfl⟩
        · have hk0 : ((k : Int) == 0) = false := by rw [beq_eq_false_iff_ne]; omega
          have hmk := mark_eq s[k] hl1
          have hno := fun h => name_not (s := s) (j := k) hlt h
          have hN := fun h => hnext h (fun e => absurd e h0)
          have HN := Lib.hid hN; have Hno := Lib.hid hno
          clear hN hlet hnext hm hl1 hno
          generalize hb : s[k] = b at *
          by_cases d1 : 48 ≤ b.toNat ∧ b.toNat ≤ 57
          · have hmt : markB b = true := by rw [hmk, decide_eq_true d1]; rfl
            have Hmt := Lib.hid (HN.out hmt)
            have k1 : (48 : Int) ≤ (b.toNat : Int) := by omega
            have k2 : (b.toNat : Int) ≤ 57 := by omega
            clear hmk hmt HN Hno
            go_wp2_with (go_at_call 133; (with_reducible refine (Hlet.out _).mono ?_); rintro e w' ⟨rfl, rfl⟩)
            go_round
            case rel => exact ⟨k + 1, by omega, by go_num, Hmt⟩
            case measure => simp [intOf]; omega
          · have k3 : (b.toNat : Int) < 48 ∨ (57 : Int) < (b.toNat : Int) := by omega
            by_cases d2 : b.toNat = 45
            · have hmt : markB b = true := by rw [hmk, decide_eq_true d2]; simp
              have Hmt := Lib.hid (HN.out hmt)
              have k1 : ((b.toNat : Int) == 45) = true := by rw [beq_iff_eq]; omega
              have k2 : (b.toNat : Int) < 48 := by omega
              have k5 : ((b.toNat : Int) != 45) = false := by rw [bne_eq_false_iff_eq]; omega
              clear hmk hmt HN Hno k3 d1 d2
              go_wp2_with (go_at_call 133; (with_reducible refine (Hlet.out _).mono ?_); rintro e w' ⟨rfl, rfl⟩)
              go_round
              case rel => exact ⟨k + 1, by omega, by go_num, Hmt⟩
              case measure => simp [intOf]; omega
            · have k5 : ((b.toNat : Int) != 45) = true := by rw [bne_iff_ne]; omega
              have k6 : ((b.toNat : Int) == 45) = false := by rw [beq_eq_false_iff_ne]; omega
              by_cases d3 : b.toNat = 95
              · have hmt : markB b = true := by rw [hmk, decide_eq_true d3]; simp
                have Hmt := Lib.hid (HN.out hmt)
                have k1 : ((b.toNat : Int) == 95) = true := by rw [beq_iff_eq]; omega
                have k2 : (57 : Int) < (b.toNat : Int) := by omega
                have k4 : (48 : Int) ≤ (b.toNat : Int) := by omega
                have k7 : ((b.toNat : Int) != 95) = false := by rw [bne_eq_false_iff_eq]; omega
                clear hmk hmt HN Hno k3 d1 d2 d3
                go_wp2_with (go_at_call 133; (with_reducible refine (Hlet.out _).mono ?_); rintro e w' ⟨rfl, rfl⟩)
                go_round
                case rel => exact ⟨k + 1, by omega, by go_num, Hmt⟩
                case measure => simp [intOf]; omega
              · have hmf : markB b = false := by rw [hmk, decide_eq_false d1, decide_eq_false d2, decide_eq_false d3]; rfl
                have Hr := Lib.hid (Hno.out hmf)
                have k7 : ((b.toNat : Int) != 95) = true := by rw [bne_iff_ne]; omega
                have k8 : ((b.toNat : Int) == 95) = false := by rw [beq_eq_false_iff_ne]; omega
                clear hmk hmf HN Hno d1 d2 d3
                rcases k3 with k3 | k3
                · go_wp2_with (go_at_call 133; (with_reducible refine (Hlet.out _).mono ?_); rintro e w' ⟨rfl, rfl⟩)
                  go_ret
                  exact ⟨ret_bool Hr.out.symm, rfl⟩
                · have k4 : (48 : Int) ≤ (b.toNat : Int) := by omega
                  go_wp2_with (go_at_call 133; (with_reducible refine (Hlet.out _).mono ?_); rintro e w' ⟨rfl, rfl⟩)
                  go_ret
                  exact ⟨ret_bool Hr.out.symm, rfl⟩
    · obtain rfl : k = s.size := by omega
      have hres : nameB s.data.toList = (decide ((1 : Int) ≤ (s.size : Int)) && decide ((s.size : Int) ≤ 20)) := by
        by_cases h1 : 1 ≤ s.size
        · by_cases h2 : s.size ≤ 20
          · have h0 : 0 < s.size := by omega
            rw [name_all h0 h2 ((hm.out 0 h0 h0).2 rfl) (fun j hj => (hm.out j hj hj).1), decide_eq_true (by omega), decide_eq_true (by omega)]; rfl
          · unfold nameB
            rw [decide_eq_false (p := (s.size : Int) ≤ 20) (by omega), decide_eq_false (p := s.data.toList.length ≤ 20) (by simpa using h2)]
            simp
        · unfold nameB
          rw [decide_eq_false (p := (1 : Int) ≤ (s.size : Int)) (by omega), decide_eq_false (p := 1 ≤ s.data.toList.length) (by simpa using h1)]
          simp
      have Hres := Lib.hid hres
      clear hres hm hlt
      by_cases h1 : (1 : Int) ≤ (s.size : Int)
      · by_cases h2 : (s.size : Int) ≤ 20
        · go_wp2_with fail
          go_ret
          exact ⟨ret_bool (by rw [Hres.out, decide_eq_true (p := (1 : Int) ≤ (s.size : Int)) (by omega), decide_eq_true (p := (s.size : Int) ≤ 20) (by omega)]; rfl), rfl⟩
        · go_wp2_with fail
          go_ret
          exact ⟨ret_bool (by rw [Hres.out, decide_eq_true (p := (1 : Int) ≤ (s.size : Int)) (by omega), decide_eq_false (p := (s.size : Int) ≤ 20) (by omega)]; rfl), rfl⟩
      · go_wp2_with fail
        go_ret
        exact ⟨ret_bool (by rw [Hres.out, decide_eq_false (p := (1 : Int) ≤ (s.size : Int)) (by omega)]; rfl), rfl⟩
end Go.Proofs.YthdenkkllpkplaaGreat.R2
end
section
/- What the laws of operations say, of the plain functions: a fresh node, an attribute. No program. -/
namespace Go.Proofs.YthdenkkllpkplaaGreat.FS
open Go.Proofs.YthdenkkllpkplaaGreat.WS
set_option linter.unusedVariables false

theorem firstE_two (a b : Int) (p q : Bool) : firstE [(a, p), (b, q)] = if p = true then (if q = true then 0 else b) else a := by
  unfold firstE
  cases p <;> cases q <;> simp
theorem one_fresh {f : Fo} {o : Opn} (hm : mayB f = true) (hmo : mayO o = true) (hk : o.kind ≤ 3) :
    (oneE f o = 0 ∧ oneF f o = f ++ [{ kind := o.kind, name := o.name, text := o.text, parent := -1 }]) ∨ ((oneE f o = 74 ∨ (oneE f o = 2 ∧ f.length = 60)) ∧ oneF f o = f) := by
  have hk1 := (mayO_kind hmo).1
  have hl := (may_len hm).2
  have hck : ∃ p, checks f o = [(74, p), (2, roomB f)] := by
    unfold checks
    split
    · exact ⟨_, rfl⟩
    · rw [if_pos (by omega)]; exact ⟨_, rfl⟩
  obtain ⟨p, hck⟩ := hck
  have he : oneE f o = if p = true then (if roomB f = true then 0 else 2) else 74 := by
    unfold oneE
    rw [if_pos hmo, hck, firstE_two]
  by_cases h0 : oneE f o = 0
  · left
    refine ⟨h0, ?_⟩
    unfold oneF doF freshF
    rw [if_pos h0, if_pos hk]
  · right
    refine ⟨?_, by unfold oneF; rw [if_neg h0]⟩
    rw [he] at h0 ⊢
    split at h0
    · rename_i hp
      rw [if_pos hp]
      split at h0
      · exact absurd rfl h0
      · rename_i hr
        rw [if_neg hr]
        unfold roomB at hr
        rw [decide_eq_true_eq] at hr
        exact .inr ⟨rfl, by omega⟩
    · rename_i hp
      rw [if_neg hp]
      exact .inl rfl
theorem findA_first {l : List Av} {s : ByteArray} {i : Nat} (hi : i < l.length) (h : l[i].name = s) (hn : ∀ j (hj : j < l.length), j < i → l[j].name ≠ s) : findA l s = some i := by
  unfold findA
  rw [List.findIdx?_eq_some_iff_getElem]
  exact ⟨hi, decide_eq_true h, fun j hj => by simp only [decide_eq_true_eq]; exact hn j _ hj⟩
theorem names_ne {l : List Av} (h : (l.map (·.name.data.toList)).Nodup) {i j : Nat} (hi : i < l.length) (hj : j < l.length) (hne : i ≠ j) : l[i].name ≠ l[j].name := fun e => by
  have h2 := List.pairwise_iff_getElem.1 h
  rcases Nat.lt_or_gt_of_ne hne with hlt | hlt
  · exact h2 i j (by simpa using hi) (by simpa using hj) hlt (by rw [List.getElem_map, List.getElem_map, e])
  · exact h2 j i (by simpa using hj) (by simpa using hi) hlt (by rw [List.getElem_map, List.getElem_map, e])
def sameA (s t : ByteArray) (a : Av) : Bool := decide (a.name = s) && decide (a.value = t)
theorem setA_facts {l : List Av} {s t : ByteArray} (h : (l.map (·.name.data.toList)).Nodup) :
    (setA l s t).length = l.length + 1 - (if (findA l s).isSome then 1 else 0) ∧ (setA l s t).countP (sameA s t) = 1 ∧ (∃ i, findA (setA l s t) s = some i) ∧ (delA (setA l s t) s).length = l.length - (if (findA l s).isSome then 1 else 0) ∧ (findA l s = none → delA (setA l s t) s = l) := by
  unfold setA
  cases hf : findA l s with
  | some i =>
    obtain ⟨hi, he⟩ := findA_some hf
    have hfi : findA (l.set i ⟨s, t⟩) s = some i := findA_first (by rw [List.length_set]; exact hi) (by rw [List.getElem_set_self]) (fun j hj hlt => by
      rw [List.length_set] at hj
      rw [List.getElem_set_ne (by omega)]
      exact fun e => names_ne h hj hi (by omega) (e.trans he.symm))
    refine ⟨?_, ?_, ⟨i, hfi⟩, ?_, fun h => by cases h⟩
    · rw [List.length_set]; simp
    · have hsplit : l.set i ⟨s, t⟩ = l.take i ++ ⟨s, t⟩ :: l.drop (i + 1) := List.set_eq_take_append_cons_drop.trans (if_pos hi)
      have hz1 : (l.take i).countP (sameA s t) = 0 := by
        rw [List.countP_eq_zero]
        intro a ha
        obtain ⟨j, hj, rfl⟩ := List.mem_iff_getElem.1 ha
        rw [List.length_take] at hj
        rw [List.getElem_take]
        have := names_ne h (i := j) (j := i) (by omega) hi (by omega)
        rw [he] at this
        unfold sameA
        simp [this]
      have hz2 : (l.drop (i + 1)).countP (sameA s t) = 0 := by
        rw [List.countP_eq_zero]
        intro a ha
        obtain ⟨j, hj, rfl⟩ := List.mem_iff_getElem.1 ha
        rw [List.length_drop] at hj
        rw [List.getElem_drop]
        have := names_ne h (i := i + 1 + j) (j := i) (by omega) hi (by omega)
        rw [he] at this
        unfold sameA
        simp [this]
      show (l.set i (⟨s, t⟩ : Av)).countP (sameA s t) = 1
      rw [hsplit, List.countP_append, List.countP_cons, hz1, hz2]
      simp [sameA]
    · show (delA (l.set i (⟨s, t⟩ : Av)) s).length = _
      unfold delA
      rw [hfi]
      show ((l.set i (⟨s, t⟩ : Av)).eraseIdx i).length = _
      rw [List.length_eraseIdx_of_lt (by rw [List.length_set]; exact hi), List.length_set]
      simp
  | none =>
    have hne := findA_none hf
    have hfi : findA (l ++ [⟨s, t⟩]) s = some l.length := findA_first (by simp) (by simp) (fun j hj hlt => by
      rw [List.getElem_append_left hlt]
      exact hne _ (List.getElem_mem _))
    refine ⟨by simp, ?_, ⟨_, hfi⟩, ?_, fun _ => ?_⟩
    · have hz : l.countP (sameA s t) = 0 := by
        rw [List.countP_eq_zero]
        intro a ha
        unfold sameA
        simp [hne a ha]
      show (l ++ [(⟨s, t⟩ : Av)]).countP (sameA s t) = 1
      rw [List.countP_append, hz]
      simp [sameA]
    · show (delA (l ++ [(⟨s, t⟩ : Av)]) s).length = _
      unfold delA
      rw [hfi]
      show ((l ++ [(⟨s, t⟩ : Av)]).eraseIdx l.length).length = _
      rw [List.length_eraseIdx_of_lt (by simp)]
      simp
    · show delA (l ++ [(⟨s, t⟩ : Av)]) s = l
      unfold delA
      rw [hfi]
      show (l ++ [(⟨s, t⟩ : Av)]).eraseIdx l.length = l
      rw [List.eraseIdx_append_of_length_le (Nat.le_refl _), Nat.sub_self]
      simp
/-- Is an attribute of the name there? -/
def hadN (l : List Av) (s : ByteArray) : Nat := if (findA l s).isSome then 1 else 0
theorem had_any (l : List Av) (s : ByteArray) : hadN l s = if l.any (fun a => decide (a.name = s)) then 1 else 0 := by
  unfold hadN
  cases hf : findA l s with
  | some i =>
    obtain ⟨hi, he⟩ := findA_some hf
    rw [if_pos (by rfl), if_pos]
    rw [List.any_eq_true]
    exact ⟨l[i], List.getElem_mem _, decide_eq_true he⟩
  | none =>
    rw [if_neg (by simp), if_neg]
    rw [List.any_eq_true]
    rintro ⟨a, ha, he⟩
    exact findA_none hf a ha (of_decide_eq_true he)
theorem one_attrs {f : Fo} {n : Nat} {s t : ByteArray} (hm : mayB f = true) (hn : n < f.length) (hs : s.size ≤ 100) (ht : t.size ≤ 100) (o d : Opn) (ho : o = { kind := 6, id := n, name := s, text := t }) (hd : d = { kind := 7, id := n, name := s }) :
    (oneE f o ≠ 0 ∧ oneF f o = f ∧ (oneE f o = 71 ∨ oneE f o = 74 ∨ oneE f o = 75)) ∨
    (oneE f o = 0 ∧ (oneF f o).length = f.length ∧ (at_ (oneF f o) n).attrs = setA (at_ f n).attrs s t ∧ oneE (oneF f o) d = 0 ∧ (oneF (oneF f o) d).length = f.length ∧ (at_ (oneF (oneF f o) d) n).attrs = delA (setA (at_ f n).attrs s t) s ∧
      ((at_ f n).attrs.map (·.name.data.toList)).Nodup ∧ (delA (setA (at_ f n).attrs s t) s = (at_ f n).attrs → oneF (oneF f o) d = f)) := by
  have hmo : mayO o = true := by rw [ho]; exact mayO_6 _ (by omega) (by omega)
  have hmd : mayO d = true := by rw [hd]; exact mayO_7 _ (by omega)
  have hko : o.kind = 6 := by rw [ho]
  have hkd : d.kind = 7 := by rw [hd]
  have hio : o.id = n := by rw [ho]
  have hid : d.id = n := by rw [hd]
  have hno : isNode f n = true := nodeI hn
  have hco : checks f o = [(70, knownB f o), (71, elemB f o), (74, namedB o), (75, hasA f o || decide ((at_ f o.id).attrs.length < 8))] := by
    unfold checks
    rw [if_neg (by omega), if_neg (by omega), if_neg (by omega), if_neg (by omega), if_pos hko]
  have heo : oneE f o = firstE (checks f o) := if_pos hmo
  by_cases h0 : oneE f o = 0
  · right
    have hch := (one_kinds h0).2
    rw [hco] at hch
    have c2 := hch (71, elemB f o) (by simp)
    unfold elemB at c2
    simp only [beq_iff_eq] at c2
    rw [hio] at c2
    obtain ⟨g, hg⟩ : ∃ g, g = f.set n { at_ f n with attrs := setA (at_ f n).attrs s t } := ⟨_, rfl⟩
    have h1 : oneF f o = g := by
      unfold oneF doF
      rw [if_pos h0, if_neg (by omega), if_neg (by omega), if_neg (by omega), if_pos hko, hg, ho, Int.toNat_natCast]
    have hpl := ((may_is hm).node n hn).1
    have hat : attrsB (at_ f n).attrs = true := by
      unfold plainB at hpl
      rw [if_neg (by omega), if_pos c2] at hpl
      simp only [Bool.and_eq_true] at hpl
      exact hpl.2
    have hnd := ((attrsB_iff _).1 hat).2.1
    obtain ⟨f1, f2, ⟨fi, f3⟩, f4, f5⟩ := setA_facts (s := s) (t := t) hnd
    have hgl : g.length = f.length := by rw [hg, List.length_set]
    have hgn : at_ g n = { at_ f n with attrs := setA (at_ f n).attrs s t } := by rw [hg, set_at hn, if_pos rfl]
    have hcd : checks g d = [(70, knownB g d), (71, elemB g d), (75, hasA g d)] := by
      unfold checks
      rw [if_neg (by omega), if_neg (by omega), if_neg (by omega), if_neg (by omega), if_neg (by omega), if_pos hkd]
    have k1 : knownB g d = true := by unfold knownB; rw [hid]; exact nodeI (by omega)
    have k2 : elemB g d = true := by unfold elemB; rw [hid, hgn]; simp [c2]
    have k3 : hasA g d = true := by unfold hasA; rw [hid, hgn, hd]; simp only; rw [f3]; rfl
    have hed : oneE g d = 0 := by
      unfold oneE
      rw [if_pos hmd, hcd, k1, k2, k3]
      rfl
    have h2 : oneF g d = g.set n { at_ g n with attrs := delA (at_ g n).attrs s } := by
      unfold oneF doF
      rw [if_pos hed, if_neg (by omega), if_neg (by omega), if_neg (by omega), if_neg (by omega), if_pos hkd, hd, Int.toNat_natCast]
    have hn2 : n < g.length := by omega
    rw [h1]
    refine ⟨h0, hgl, by rw [hgn], hed, by rw [h2, List.length_set, hgl], by rw [h2, set_at hn2, if_pos rfl, hgn], hnd, fun hdel => ?_⟩
    rw [h2, hgn]
    simp only
    rw [hdel, hg, List.set_set, at_nat' hn]
    exact List.set_getElem_self _
  · left
    refine ⟨h0, by unfold oneF; rw [if_neg h0], ?_⟩
    have k1 : knownB f o = true := by unfold knownB; rw [hio]; exact hno
    rw [heo, hco, k1] at h0 ⊢
    clear heo hco
    generalize elemB f o = p at *
    generalize namedB o = q at *
    generalize (hasA f o || decide ((at_ f o.id).attrs.length < 8)) = r at *
    cases p <;> cases q <;> cases r <;> simp [firstE] at h0 ⊢
  where at_nat' {f : Fo} {n : Nat} (hn : n < f.length) : at_ f (n : Int) = f[n] := atN hn
end Go.Proofs.YthdenkkllpkplaaGreat.FS
end
section
/- treillageref05: count; attrs and alone, of what may be. -/
namespace Go.Proofs.YthdenkkllpkplaaGreat.R5
open Go Go.RowKit Go.Proofs.YthdenkkllpkplaaGreat.Seq Go.Proofs.YthdenkkllpkplaaGreat.WS Go.Proofs.YthdenkkllpkplaaGreat.FS Go.Proofs.YthdenkkllpkplaaGreat.Mem Go.Proofs.YthdenkkllpkplaaGreat.Rd Go.Proofs.YthdenkkllpkplaaGreat.Word Go.Proofs.YthdenkkllpkplaaGreat.Shapes Go.Proofs.YthdenkkllpkplaaGreat.FFam
set_option linter.unusedVariables false
set_option linter.unusedSimpArgs false
theorem empty_is {s : ByteArray} (h : s.size = 0) : s = ⟨#[]⟩ := by
  obtain ⟨d⟩ := s
  congr
  exact Array.eq_empty_of_size_eq_zero h
set_option maxRecDepth 100000 in
theorem count_calls (w : World) (v : Value) (l : List Int) (x : Int) (h : RdL (intE .i64) 1 w.heap.size w v l) :
    Calls Tryz.prog 210 #[v, .int .i64 x] w fun e w' => e = .returned (.int .i64 (l.count x : Nat)) ∧ w = w' := by
  obtain ⟨A0, c0, rfl, hl0, hc0, h'⟩ := h.form
  simp only [maxLen] at hc0
  have HR := Lib.hid h'
  clear h h'
  go_enter Tryz.func210, Tryz.ntmps210
  go_wp2_with fail
  go_loop [5, 6] (fun c i => ∃ k m : Nat, k ≤ l.length ∧ m ≤ k ∧ c = .int .i64 m ∧ i = .int .i64 k ∧ Hid (m = (l.take k).count x)) (fun _ i => l.length - (intOf i).toNat)
  case atStart => exact ⟨0, 0, Nat.zero_le _, Nat.le_refl _, rfl, rfl, Lib.hid rfl⟩
  case round =>
    obtain ⟨k, m, hk, hmk, rfl, rfl, hm⟩ := hrel
    by_cases hlt : k < l.length
    · obtain ⟨b, o, rfl, hbl, g0, gw⟩ := intE_at HR.out hlt
      have htk : (l.take (k + 1)).count x = (l.take k).count x + if l[k] = x then 1 else 0 := by
        rw [List.take_succ_eq_append_getElem hlt, List.count_append, List.count_singleton]
        simp
      generalize l[k] = y at *
      by_cases hx : y = x
      · rw [if_pos hx] at htk
        have hxb : (y == x) = true := by rw [beq_iff_eq]; exact hx
        have Hn := Lib.hid (show m + 1 = (l.take (k + 1)).count x by rw [htk, hm.out])
        clear htk hm hx gw
        go_wp2_with fail
        go_round
        case rel => exact ⟨k + 1, m + 1, by omega, by omega, by go_num, by go_num, Hn⟩
        case measure => simp [intOf]; omega
      · rw [if_neg hx] at htk
        have hxb : (y == x) = false := by rw [beq_eq_false_iff_ne]; exact hx
        have Hn := Lib.hid (show m = (l.take (k + 1)).count x by rw [htk, hm.out]; rfl)
        clear htk hm hx gw
        go_wp2_with fail
        go_round
        case rel => exact ⟨k + 1, m, by omega, by omega, rfl, by go_num, Hn⟩
        case measure => simp [intOf]; omega
    · have hr : m = l.count x := by rw [hm.out, List.take_of_length_le (by omega)]
      have Hr := Lib.hid hr
      clear hr hm
      go_wp2_with fail
      go_ret
      exact ⟨by rw [← Hr.out]; rfl, rfl⟩
set_option maxRecDepth 100000 in
set_option maxHeartbeats 4000000 in
theorem attrs_calls (w : World) (v : Value) (l : List Av) (h : RdL attrE 2 w.heap.size w v l) (hb : attrsB l = true) :
    Calls Tryz.prog 209 #[v] w fun e w' => e = .returned (.bool true) ∧ Below w.heap.size w w' := by
  obtain ⟨h1, h2, h3⟩ := (attrsB_iff _).1 hb
  have hne := fun (i j : Nat) (hi : i < l.length) (hj : j < l.length) (hn : i ≠ j) => names_ne h2 hi hj hn
  have hnm : ∀ i (hi : i < l.length), l[i].name.size ≤ 9223372036854775807 → ∀ w, Calls Tryz.prog 61 #[.string l[i].name] w fun e w' => e = .returned (.bool true) ∧ w = w' := fun i hi hs w => by
    have := R2.Name_calls l[i].name hs w
    rw [(h1 _ (List.getElem_mem hi)).1] at this
    exact this
  have htx : ∀ i (hi : i < l.length), ∀ w, Calls Tryz.prog 62 #[.string l[i].value] w fun e w' => e = .returned (.bool true) ∧ w = w' := fun i hi w => by
    have := R2.Text_calls l[i].value w
    rw [(h1 _ (List.getElem_mem hi)).2] at this
    exact this
  have HR := Lib.hid (fun w' hb => h.below attrE_keeps (w' := w') hb (Nat.le_refl _))
  obtain ⟨A0, c0, rfl, hl0, hc0, _⟩ := h.form
  simp only [maxLen] at hc0
  have Hne := Lib.hid hne; have Hnm := Lib.hid hnm; have Htx := Lib.hid htx
  clear h hne hnm htx h1 h2 hb
  go_enter Tryz.func209, Tryz.ntmps209
  go_wp2_with fail
  go_loopw [3] (fun i wr => ∃ k : Nat, k ≤ l.length ∧ i = .int .i64 k ∧ Below w.heap.size w wr) (fun i _ => l.length - (intOf i).toNat)
  case atStart => exact ⟨0, Nat.zero_le _, rfl, Below.refl _ _⟩
  case round =>
    obtain ⟨k, hk, rfl, hb⟩ := hrel
    have Hb := Lib.hid hb
    by_cases hlt : k < l.length
    · obtain ⟨ba, oa, rfl, hba, q0, q1, mm1, mm2⟩ := FAttr.attr_at (HR.out _ hb) hlt
      have hn1 := Hnm.out k hlt mm1
      have ht1 := Htx.out k hlt
      have Hn1 := Lib.hid hn1; have Ht1 := Lib.hid ht1
      clear hn1 ht1 hb mm1 mm2
      go_upto_region 6 with (first | (go_at_call 61; (with_reducible refine (Hn1.out _).mono ?_); rintro e w5 ⟨rfl, rfl⟩) | (go_at_call 62; (with_reducible refine (Ht1.out _).mono ?_); rintro e w5 ⟨rfl, rfl⟩))
      clear Hn1 Ht1 q1
      go_wp2_with fail
      go_loopw [4] (fun i wi => ∃ j : Nat, j ≤ k ∧ i = .int .i64 j ∧ Below w.heap.size w wi) (fun i _ => k - (intOf i).toNat)
      case atStart => exact ⟨0, Nat.zero_le _, rfl, Hb.out⟩
      case round =>
        obtain ⟨j, hj, rfl, hb2⟩ := hrel
        have Hb2 := Lib.hid hb2
        by_cases hjl : j < k
        · have hjL : j < l.length := by omega
          obtain ⟨b3, o3, e3, _, y0, _, _, _⟩ := FAttr.attr_at (HR.out _ hb2) hjL
          injection e3 with e3
          injection e3 with e4 e5 _
          subst e4 e5
          obtain ⟨b3, o3, e3, _, y1, _, _, _⟩ := FAttr.attr_at (HR.out _ hb2) hlt
          injection e3 with e3
          injection e3 with e4 e5 _
          subst e4 e5
          have hx := Hne.out j k hjL hlt (by omega)
          have hxb : (l[j].name.toList == l[k].name.toList) = false := by rw [FSame.str_beq]; exact decide_eq_false hx
          have hjI : (j : Int) < (l.length : Int) := by omega
          have hkI : (k : Int) < (l.length : Int) := by omega
          clear hx hb2 q0
          generalize l[j].name = nj at *
          generalize l[k].name = nk at *
          go_wp2_with fail
          go_region
          all_goals go_wp2_with fail
          all_goals
            go_roundw
            case rel => exact ⟨j + 1, by omega, by go_num, by first | exact Hb2.out | exact Hb2.out.drew⟩
            case measure => simp [intOf]; omega
        · obtain rfl : j = k := by omega
          clear hb2 q0
          go_wp2_with fail
          go_roundw
          case rel => exact ⟨j + 1, by omega, by go_num, Hb2.out⟩
          case measure => simp [intOf]; omega
    · have hl8 : (l.length : Int) ≤ 8 := by omega
      clear hb
      go_wp2_with fail
      go_ret
      exact ⟨rfl, Hb.out⟩
end Go.Proofs.YthdenkkllpkplaaGreat.R5
end
section
/- treillageref07: without. -/
namespace Go.Proofs.YthdenkkllpkplaaGreat.R7
open Go Go.RowKit Go.Proofs.YthdenkkllpkplaaGreat.Seq Go.Proofs.YthdenkkllpkplaaGreat.WS Go.Proofs.YthdenkkllpkplaaGreat.FS Go.Proofs.YthdenkkllpkplaaGreat.WordIt Go.Proofs.YthdenkkllpkplaaGreat.Mem Go.Proofs.YthdenkkllpkplaaGreat.Rd Go.Proofs.YthdenkkllpkplaaGreat.Word Go.Proofs.YthdenkkllpkplaaGreat.WordHas Go.Proofs.YthdenkkllpkplaaGreat.Shapes Go.Proofs.YthdenkkllpkplaaGreat.FFam Go.Proofs.YthdenkkllpkplaaGreat.FMay Go.Proofs.YthdenkkllpkplaaGreat.FTops
set_option linter.unusedVariables false
set_option linter.unusedSimpArgs false
theorem made_ints (w : World) : (w.alloc (.cells #[] 3)).ownsRow w.heap.size 3 1 (.slice (some ⟨w.heap.size, 0, none⟩) 0 0) 0 [] := World.ownsRow_made w #[] 0 (Nat.le_refl _) (by simp [maxLen]) (by simp)
def wo (l : List Int) (x : Int) (k : Nat) : List Int := (l.take k).filter (· != x)
theorem wo_succ {l : List Int} {x : Int} {k : Nat} (hk : k < l.length) : wo l x (k + 1) = wo l x k ++ if l[k] = x then [] else [l[k]] := by
  unfold wo
  rw [List.take_succ_eq_append_getElem hk, List.filter_append]
  by_cases h : l[k] = x
  · rw [if_pos h, List.filter_cons_of_neg (by simp [h])]; rfl
  · rw [if_neg h, List.filter_cons_of_pos (by simp [h])]; rfl
theorem wo_le (l : List Int) (x : Int) (k : Nat) : (wo l x k).length ≤ k := Nat.le_trans (List.length_filter_le _ _) (by rw [List.length_take]; omega)
set_option maxRecDepth 100000 in
set_option maxHeartbeats 4000000 in
theorem without_calls (w : World) (v : Value) (l : List Int) (x : Int) (h : RdL (intE .i64) 1 w.heap.size w v l) (hl : l.length ≤ 1000) :
    Calls Tryz.prog 135 #[v, .int .i64 x] w fun e w' => ∃ v', e = .returned v' ∧ w'.ownsRow w.heap.size 3 1 v' (l.filter (· != x)).length ((l.filter (· != x)).map (Value.int .i64)) ∧ Below w.heap.size w w' := by
  have HR := Lib.hid (fun w' hb => h.below (intE_keeps _) (w' := w') hb (Nat.le_refl _))
  obtain ⟨A0, c0, rfl, hl0, hc0, _⟩ := h.form
  simp only [maxLen] at hc0
  clear h
  go_enter Tryz.func135, Tryz.ntmps135
  go_wp2_with fail
  go_loopw [5, 6] (fun u i wr => ∃ k : Nat, k ≤ l.length ∧ i = .int .i64 k ∧ wr.ownsRow w.heap.size 3 1 u (wo l x k).length ((wo l x k).map (Value.int .i64)) ∧ Below w.heap.size w wr) (fun _ i _ => l.length - (intOf i).toNat)
  case atStart => exact ⟨0, Nat.zero_le _, rfl, made_ints w, (Below.refl _ _).alloc (Nat.le_refl _) _⟩
  case round =>
    obtain ⟨k, hk, rfl, h1, h2⟩ := hrel
    by_cases hlt : k < l.length
    · obtain ⟨b, o, rfl, hbl, g0, gw⟩ := intE_at (HR.out _ h2) hlt
      have hts := wo_succ (l := l) (x := x) hlt
      have htl := wo_le l x k
      by_cases hx : l[k] = x
      · rw [if_pos hx, List.append_nil] at hts
        have hxn : (l[k] != x) = false := by rw [bne_eq_false_iff_eq]; exact hx
        have Hts := Lib.hid hts; have H1 := Lib.hid h1; have H2 := Lib.hid h2
        clear h1 h2 hts hx gw
        generalize l[k] = y at *
        go_wp2_with fail
        go_roundw
        case rel => exact ⟨k + 1, by omega, by go_num, by rw [Hts.out]; exact H1.out, H2.out⟩
        case measure => simp [intOf]; omega
      · rw [if_neg hx] at hts
        have hxn : (l[k] != x) = true := by rw [bne_iff_ne]; exact hx
        have h1' : wr.ownsRow w.heap.size 3 1 u5 ((wo l x k).map (Value.int .i64)).length ((wo l x k).map (Value.int .i64)) := by rw [List.length_map]; exact h1
        have Hts := Lib.hid hts; have H1 := Lib.hid h1'; have H2 := Lib.hid h2; have HB := Lib.hid h2.size
        clear h1 h1' h2 hts hx gw
        generalize l[k] = y at *
        go_wp2_with (at_builtin; go_loud (refine pl_append _ w.heap.size rfl _ _ 53 3 (.int .i64 0) 8 rfl Tryz.underlying53 info_int rfl u5 ((wo l x k).map (Value.int .i64)) (.int .i64 y) rfl (by simp [Act.eval]) rfl H1.out HB.out (by rw [List.length_map]; omega) (by rw [List.length_map]; simp [maxLen]; omega) ?_); rintro v7 w7 hown7 hgrow7 ⟨g7, cap7, rfl, hat⟩; have Hown7 := Lib.hid hown7; have Hgrow7 := Lib.hid hgrow7; clear hown7 hgrow7 hat)
        go_roundw
        case rel =>
          refine ⟨k + 1, by omega, by go_num, ?_, grown_below H2.out Hgrow7.out H1.out (Nat.le_refl _)⟩
          have h9 := Hown7.out
          rw [show (wo l x k).map (Value.int .i64) ++ [Value.int .i64 y] = (wo l x (k + 1)).map (Value.int .i64) by rw [Hts.out, List.map_append]; rfl, List.length_map] at h9
          simpa only [List.length_map] using h9
        case measure => simp [intOf]; omega
    · obtain rfl : k = l.length := by omega
      have hf : wo l x l.length = l.filter (· != x) := by unfold wo; rw [List.take_length]
      rw [hf] at h1
      have H1 := Lib.hid h1; have H2 := Lib.hid h2
      clear h1 h2 hf
      go_wp2_with fail
      go_ret
      exact ⟨_, rfl, H1.out, H2.out⟩
end Go.Proofs.YthdenkkllpkplaaGreat.R7
end
