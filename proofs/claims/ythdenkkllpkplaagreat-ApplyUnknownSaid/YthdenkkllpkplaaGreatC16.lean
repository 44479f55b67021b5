/- Joined by a program: Bnd7, FSameN, FSameF, APlainB, APlainC. -/
import Derived.Test.YthdenkkllpkplaaGreatC14
import Derived.Test.YthdenkkllpkplaaGreatC06
section
/- treillagelaw07.bounded. -/
namespace Go.Proofs.YthdenkkllpkplaaGreat.Ap
open Go Go.RowKit Go.Proofs.YthdenkkllpkplaaGreat.Seq Go.Proofs.YthdenkkllpkplaaGreat.WS Go.Proofs.YthdenkkllpkplaaGreat.FS Go.Proofs.YthdenkkllpkplaaGreat.Mem Go.Proofs.YthdenkkllpkplaaGreat.Rd Go.Proofs.YthdenkkllpkplaaGreat.Shapes Go.Proofs.YthdenkkllpkplaaGreat.Word Go.Proofs.YthdenkkllpkplaaGreat.FFam Go.Proofs.YthdenkkllpkplaaGreat.Grown
set_option linter.unusedVariables false
set_option linter.unusedSimpArgs false
set_option maxRecDepth 100000 in
set_option maxHeartbeats 4000000 in
theorem bounded_calls (w : World) (v : Value) (l : List Opn) (h : RdO w.heap.size w v l) : Calls Tryz.prog 18 #[v] w fun e w' => e = .returned (.bool (bndO l)) ∧ w = w' := by
  obtain ⟨A0, c0, rfl, hl0, hc0, h'⟩ := h.form
  simp only [maxLen] at hc0
  have Hh := Lib.hid h'
  have hno := fun k (hk : k < l.length) hx => bndO_no (l := l) hk hx
  have Hno := Lib.hid hno
  clear h h' hno
  go_enter Tryz.func18, Tryz.ntmps18
  go_wp2_with fail
  go_loop [3] (fun i => ∃ k : Nat, k ≤ l.length ∧ i = .int .i64 k ∧ Hid ((l.take k).all opB = true)) (fun i => l.length - (intOf i).toNat)
  case atStart => exact ⟨0, Nat.zero_le _, rfl, Lib.hid rfl⟩
  case round =>
    obtain ⟨k, hk, rfl, hall⟩ := hrel
    by_cases hlt : k < l.length
    · obtain ⟨b, o, rfl, hbl, _, _, _, _, g4, g5, m1, m2, _, _⟩ := op_at Hh.out hlt
      have hno := Hno.out k hlt
      have htk : l.take (k + 1) = l.take k ++ [l[k]] := List.take_succ_eq_append_getElem hlt
      have hallk : opB l[k] = true → (l.take (k + 1)).all opB = true := fun hx => by rw [htk, List.all_append, hall.out]; simp [hx]
      have Hallk := Lib.hid hallk; have Hn := Lib.hid hno
      clear hallk hno htk hall m1 m2
      generalize l[k] = x at *
      by_cases h1 : x.name.size ≤ 300
      · by_cases h2 : x.text.size ≤ 300
        · have hx : opB x = true := by unfold opB; rw [decide_eq_true h1, decide_eq_true h2]; rfl
          have Hx := Lib.hid hx
          clear hx
          go_wp2_with fail
          go_round
          case rel => exact ⟨k + 1, by omega, by go_num, Lib.hid (Hallk.out Hx.out)⟩
          case measure => simp [intOf]; omega
        · have hx : opB x = false := by unfold opB; rw [decide_eq_false h2]; simp
          have Hx := Lib.hid hx
          clear hx
          go_wp2_with fail
          go_ret
          exact ⟨by rw [Hn.out Hx.out]; rfl, rfl⟩
      · have hx : opB x = false := by unfold opB; rw [decide_eq_false h1]; rfl
        have Hx := Lib.hid hx
        clear hx
        go_wp2_with fail
        go_ret
        exact ⟨by rw [Hn.out Hx.out]; rfl, rfl⟩
    · have hr : bndO l = decide ((l.length : Int) ≤ 150) := by
        unfold bndO
        have := hall.out
        rw [List.take_of_length_le (by omega)] at this
        rw [this, Bool.true_and]
        rw [Bool.eq_iff_iff]; simp; try omega
      have Hr := Lib.hid hr
      clear hr hall
      go_wp2_with fail
      go_ret
      exact ⟨by rw [Hr.out]; rfl, rfl⟩
end Go.Proofs.YthdenkkllpkplaaGreat.Ap
end
section
/- Equality of nodes, of forests. -/
namespace Go.Proofs.YthdenkkllpkplaaGreat.FSameN
open Go Go.RowKit Go.Proofs.YthdenkkllpkplaaGreat.Seq Go.Proofs.YthdenkkllpkplaaGreat.WS Go.Proofs.YthdenkkllpkplaaGreat.FS Go.Proofs.YthdenkkllpkplaaGreat.WordIt Go.Proofs.YthdenkkllpkplaaGreat.Mem Go.Proofs.YthdenkkllpkplaaGreat.Rd Go.Proofs.YthdenkkllpkplaaGreat.Word Go.Proofs.YthdenkkllpkplaaGreat.WordHas Go.Proofs.YthdenkkllpkplaaGreat.Shapes Go.Proofs.YthdenkkllpkplaaGreat.FFam Go.Proofs.YthdenkkllpkplaaGreat.FMay Go.Proofs.YthdenkkllpkplaaGreat.FSame
set_option linter.unusedVariables false
set_option linter.unusedSimpArgs false

theorem node_eq (k1 k2 p1 p2 : Int) (n1 n2 t1 t2 : ByteArray) (a1 a2 : List Av) (c1 c2 : List Int) :
    decide ((⟨k1, n1, t1, a1, p1, c1⟩ : Nd) = ⟨k2, n2, t2, a2, p2, c2⟩) = ((k1 == k2) && (n1.toList == n2.toList) && (t1.toList == t2.toList) && (p1 == p2) && decide (a1 = a2) && decide (c1 = c2)) := by
  rw [Bool.eq_iff_iff]
  simp only [Nd.mk.injEq, decide_eq_true_eq, Bool.and_eq_true, beq_iff_eq, str_inj]
  constructor
  · rintro ⟨h1, h2, h3, h4, h5, h6⟩; exact ⟨⟨⟨⟨⟨h1, h2⟩, h3⟩, h5⟩, h4⟩, h6⟩
  · rintro ⟨⟨⟨⟨⟨h1, h2⟩, h3⟩, h5⟩, h4⟩, h6⟩; exact ⟨h1, h2, h3, h4, h5, h6⟩
theorem cell_at1 (w : World) (cs cs' : Array Value) (t t' : TypeId) (j : Nat) (u : Value) (h : cs[j]? = some u) : ((w.alloc (.cells cs t)).alloc (.cells cs' t')).cell? ⟨w.heap.size, j, none⟩ = some u := by
  rw [World.cell?_alloc_lt _ _ _ (by simp), cell_of_row _ _ _ _ t (0, 0) (heap_alloc_new w _)]; exact h
theorem cell_at2 (w : World) (cs cs' : Array Value) (t t' : TypeId) (j : Nat) (u : Value) (h : cs'[j]? = some u) : ((w.alloc (.cells cs t)).alloc (.cells cs' t')).cell? ⟨w.heap.size + 1, j, none⟩ = some u := by
  have := cell_of_row ((w.alloc (.cells cs t)).alloc (.cells cs' t')) (w.alloc (.cells cs t)).heap.size j cs' t' (0, 0) (heap_alloc_new _ _)
  rw [show (w.alloc (.cells cs t)).heap.size = w.heap.size + 1 by simp] at this
  rw [this]; exact h
set_option maxRecDepth 100000 in
set_option maxHeartbeats 4000000 in
theorem same1_calls (w : World) (k1 k2 p1 p2 : Int) (n1 n2 t1 t2 : ByteArray) (a1 a2 : List Av) (c1 c2 : List Int) (va1 vc1 va2 vc2 : Value)
    (ha1 : RdL attrE 2 w.heap.size w va1 a1) (ha2 : RdL attrE 2 w.heap.size w va2 a2) (hc1 : RdL (intE .i64) 1 w.heap.size w vc1 c1) (hc2 : RdL (intE .i64) 1 w.heap.size w vc2 c2) :
    Calls Tryz.prog 73 #[.agg #[.int .i64 k1, .string n1, .string t1, va1, .int .i64 p1, vc1], .agg #[.int .i64 k2, .string n2, .string t2, va2, .int .i64 p2, vc2]] w fun e w' =>
      e = .returned (.bool (decide ((⟨k1, n1, t1, a1, p1, c1⟩ : Nd) = ⟨k2, n2, t2, a2, p2, c2⟩))) ∧ Below w.heap.size w w' := by
  have HA := Lib.hid (fun w1 hb => EqualAttrs_calls w1 va1 va2 a1 a2 ((ha1.below attrE_keeps (w' := w1) hb (Nat.le_refl _)).mono attrE_keeps hb.size) ((ha2.below attrE_keeps (w' := w1) hb (Nat.le_refl _)).mono attrE_keeps hb.size))
  have HC := Lib.hid (fun w1 hb => EqualInts_calls w1 vc1 vc2 c1 c2 ((hc1.below (intE_keeps _) (w' := w1) hb (Nat.le_refl _)).mono (intE_keeps _) hb.size) ((hc2.below (intE_keeps _) (w' := w1) hb (Nat.le_refl _)).mono (intE_keeps _) hb.size))
  obtain ⟨A1, b1, rfl, _, _, _⟩ := ha1.form
  obtain ⟨A2, b2, rfl, _, _, _⟩ := ha2.form
  obtain ⟨C1, d1, rfl, _, _, _⟩ := hc1.form
  obtain ⟨C2, d2, rfl, _, _, _⟩ := hc2.form
  rw [node_eq]
  clear ha1 ha2 hc1 hc2
  generalize decide (a1 = a2) = ba at *
  generalize decide (c1 = c2) = bc at *
  go_enter Tryz.func73, Tryz.ntmps73
  go_wp2_with (first
    | (go_at_call 74; refine (HA.out _ (((Below.refl _ _).alloc (Nat.le_refl _) _).alloc (by simp) _)).mono ?_; rintro e w5 ⟨rfl, hb5⟩; have Hb5 := Lib.hid (bthen (((Below.refl w.heap.size w).alloc (Nat.le_refl _) _).alloc (by simp) _) hb5); have gc1 := cell_grow hb5 (cell_at2 w _ _ _ _ 5 _ rfl); have gc2 := cell_grow hb5 (cell_at1 w _ _ _ _ 5 _ rfl); have gc3 := cell_grow hb5 (cell_at2 w _ _ _ _ 4 _ rfl); have gc4 := cell_grow hb5 (cell_at1 w _ _ _ _ 4 _ rfl); clear hb5)
    | (go_at_call 75; with_reducible refine (HC.out _ Hb5.out).mono ?_; rintro e w6 ⟨rfl, hb6⟩; have Hb6 := Lib.hid (bthen Hb5.out hb6); clear hb6))
  all_goals
    go_ret
    refine ⟨ret_bool ?_, by first | exact Hb6.out | exact Hb5.out | exact ((Below.refl _ _).alloc (Nat.le_refl _) _).alloc (by simp) _⟩
    rw [Bool.eq_iff_iff]
    simp_all
set_option maxRecDepth 100000 in
set_option maxHeartbeats 4000000 in
theorem refNode_calls (w : World) (k1 k2 p1 p2 : Int) (n1 n2 t1 t2 : ByteArray) (a1 a2 : List Av) (c1 c2 : List Int) (va1 vc1 va2 vc2 : Value)
    (ha1 : RdL attrE 2 w.heap.size w va1 a1) (ha2 : RdL attrE 2 w.heap.size w va2 a2) (hc1 : RdL (intE .i64) 1 w.heap.size w vc1 c1) (hc2 : RdL (intE .i64) 1 w.heap.size w vc2 c2) :
    Calls Tryz.prog 68 #[.agg #[.int .i64 k1, .string n1, .string t1, va1, .int .i64 p1, vc1], .agg #[.int .i64 k2, .string n2, .string t2, va2, .int .i64 p2, vc2]] w fun e w' =>
      e = .returned (.bool (decide ((⟨k1, n1, t1, a1, p1, c1⟩ : Nd) = ⟨k2, n2, t2, a2, p2, c2⟩))) ∧ Below w.heap.size w w' := by
  have HA := Lib.hid (fun w1 hb => RefAttrs_calls w1 va1 va2 a1 a2 ((ha1.below attrE_keeps (w' := w1) hb (Nat.le_refl _)).mono attrE_keeps hb.size) ((ha2.below attrE_keeps (w' := w1) hb (Nat.le_refl _)).mono attrE_keeps hb.size))
  have HC := Lib.hid (fun w1 hb => RefInts_calls w1 vc1 vc2 c1 c2 ((hc1.below (intE_keeps _) (w' := w1) hb (Nat.le_refl _)).mono (intE_keeps _) hb.size) ((hc2.below (intE_keeps _) (w' := w1) hb (Nat.le_refl _)).mono (intE_keeps _) hb.size))
  obtain ⟨A1, b1, rfl, _, _, _⟩ := ha1.form
  obtain ⟨A2, b2, rfl, _, _, _⟩ := ha2.form
  obtain ⟨C1, d1, rfl, _, _, _⟩ := hc1.form
  obtain ⟨C2, d2, rfl, _, _, _⟩ := hc2.form
  rw [node_eq]
  clear ha1 ha2 hc1 hc2
  generalize decide (a1 = a2) = ba at *
  generalize decide (c1 = c2) = bc at *
  go_enter Tryz.func68, Tryz.ntmps68
  go_wp2_with (first
    | (go_at_call 136; refine (HA.out _ (((Below.refl _ _).alloc (Nat.le_refl _) _).alloc (by simp) _)).mono ?_; rintro e w5 ⟨rfl, hb5⟩; have Hb5 := Lib.hid (bthen (((Below.refl w.heap.size w).alloc (Nat.le_refl _) _).alloc (by simp) _) hb5); have gc1 := cell_grow hb5 (cell_at2 w _ _ _ _ 5 _ rfl); have gc2 := cell_grow hb5 (cell_at1 w _ _ _ _ 5 _ rfl); have gc3 := cell_grow hb5 (cell_at2 w _ _ _ _ 4 _ rfl); have gc4 := cell_grow hb5 (cell_at1 w _ _ _ _ 4 _ rfl); clear hb5)
    | (go_at_call 41; with_reducible refine (HC.out _ Hb5.out).mono ?_; rintro e w6 ⟨rfl, hb6⟩; have Hb6 := Lib.hid (bthen Hb5.out hb6); clear hb6))
  all_goals
    go_ret
    refine ⟨ret_bool ?_, by first | exact Hb6.out | exact Hb5.out | exact ((Below.refl _ _).alloc (Nat.le_refl _) _).alloc (by simp) _⟩
    rw [Bool.eq_iff_iff]
    simp_all
end Go.Proofs.YthdenkkllpkplaaGreat.FSameN
end
section
/- Equality of forests. -/
namespace Go.Proofs.YthdenkkllpkplaaGreat.FSameF
open Go Go.RowKit Go.Proofs.YthdenkkllpkplaaGreat.Seq Go.Proofs.YthdenkkllpkplaaGreat.WS Go.Proofs.YthdenkkllpkplaaGreat.FS Go.Proofs.YthdenkkllpkplaaGreat.WordIt Go.Proofs.YthdenkkllpkplaaGreat.Mem Go.Proofs.YthdenkkllpkplaaGreat.Rd Go.Proofs.YthdenkkllpkplaaGreat.Word Go.Proofs.YthdenkkllpkplaaGreat.WordHas Go.Proofs.YthdenkkllpkplaaGreat.Shapes Go.Proofs.YthdenkkllpkplaaGreat.FFam Go.Proofs.YthdenkkllpkplaaGreat.FMay Go.Proofs.YthdenkkllpkplaaGreat.FSame Go.Proofs.YthdenkkllpkplaaGreat.FSameN
set_option linter.unusedVariables false
set_option linter.unusedSimpArgs false

set_option maxRecDepth 100000 in
set_option maxHeartbeats 4000000 in
theorem EqualFunc_calls (w : World) (v1 v2 : Value) (a b : Fo) (h1 : RdF w.heap.size w v1 a) (h2 : RdF w.heap.size w v2 b) :
    Calls Tryz.prog 72 #[v1, v2, .func (.func 73) #[] #[]] w fun e w' => e = .returned (.bool (decide (a = b))) ∧ Below w.heap.size w w' := by
  have HR1 := Lib.hid (fun w' hb => h1.below nodeE_keeps (w' := w') hb (Nat.le_refl _))
  have HR2 := Lib.hid (fun w' hb => h2.below nodeE_keeps (w' := w') hb (Nat.le_refl _))
  obtain ⟨A1, c1, rfl, l1, m1, _⟩ := h1.form
  obtain ⟨A2, c2, rfl, l2, m2, _⟩ := h2.form
  simp only [maxLen] at m1 m2
  clear h1 h2
  by_cases hl : a.length = b.length
  case neg =>
    have hr := list_ne_len hl
    have e1 : ((a.length : Int) == (b.length : Int)) = false := by rw [beq_eq_false_iff_ne]; omega
    have e2 : ((a.length : Int) != (b.length : Int)) = true := by rw [bne_iff_ne]; omega
    have Hr := Lib.hid hr; clear hr hl
    go_enter Tryz.func72, Tryz.ntmps72
    go_wp2_with fail
    go_ret
    exact ⟨ret_bool Hr.out.symm, Below.refl _ _⟩
  case pos =>
    have e1 : ((a.length : Int) == (b.length : Int)) = true := by rw [beq_iff_eq]; omega
    have e2 : ((a.length : Int) != (b.length : Int)) = false := by rw [hl]; simp
    have hne := fun k ha hb h => list_ne_at (a := a) (b := b) (k := k) ha hb h
    have heq := list_eq_at (a := a) (b := b) hl
    have Hne := Lib.hid hne; have Heq := Lib.hid heq
    clear hne heq
    go_enter Tryz.func72, Tryz.ntmps72
    have Hl := Lib.hid hl; clear hl
    go_wp2_with fail
    clear e1 e2
    go_loopw [17] (fun i wr => ∃ k : Nat, k ≤ a.length ∧ i = .int .i64 k ∧ Below w.heap.size w wr ∧ ∀ j (ha : j < a.length) (hb : j < b.length), j < k → a[j] = b[j]) (fun i _ => a.length - (intOf i).toNat)
    case atStart => exact ⟨0, Nat.zero_le _, rfl, Below.refl _ _, fun j _ _ h => by omega⟩
    case round =>
      obtain ⟨k, hk, rfl, hb, hall⟩ := hrel
      by_cases hlt : k < a.length
      · have hltb : k < b.length := by rw [← Hl.out]; exact hlt
        obtain ⟨b1, o1, Aa, ca, Ak, ck, he1, hbl1, g0, g1, g2, g3, g4, g5, ra, rk, la, lca, lk, lck, _⟩ := node_at (HR1.out _ hb) hlt
        obtain ⟨b2, o2, Ba, da, Bk, dk, he2, hbl2, f0, f1, f2, f3, f4, f5, sa, sk, _⟩ := node_at (HR2.out _ hb) hltb
        subst he1
        subst he2
        have hnx : a[k] = b[k] → ∀ j (ha : j < a.length) (hb : j < b.length), j < k + 1 → a[j] = b[j] := fun h j ha hb hj => by
          by_cases e : j = k
          · subst e; exact h
          · exact hall j ha hb (by omega)
        have hno := Hne.out k hlt hltb
        have hsz := hb.size
        generalize hx : a[k] = x at *
        generalize hy : b[k] = y at *
        obtain ⟨k1, n1, t1, a1, p1, cc1⟩ := x
        obtain ⟨k2, n2, t2, a2, p2, cc2⟩ := y
        simp only at *
        have fa : ∀ (o : Obj) (j : Nat) (u : Value), wr.cell? ⟨b2, j, none⟩ = some u → (wr.alloc o).cell? ⟨b2, j, none⟩ = some u := fun o j u h => cell_alloc h o
        have f0 := fun o => fa o _ _ f0
        have f1 := fun o => fa o _ _ f1
        have f2 := fun o => fa o _ _ f2
        have f3 := fun o => fa o _ _ f3
        have f4 := fun o => fa o _ _ f4
        have f5 := fun o => fa o _ _ f5
        clear fa
        have hs : ∀ w1, Below wr.heap.size wr w1 → Calls Tryz.prog 73 #[.agg #[.int .i64 k1, .string n1, .string t1, .slice Aa a1.length ca, .int .i64 p1, .slice Ak cc1.length ck], .agg #[.int .i64 k2, .string n2, .string t2, .slice Ba a2.length da, .int .i64 p2, .slice Bk cc2.length dk]] w1 fun e w' =>
            e = .returned (.bool (decide ((⟨k1, n1, t1, a1, p1, cc1⟩ : Nd) = ⟨k2, n2, t2, a2, p2, cc2⟩))) ∧ Below w1.heap.size w1 w' := fun w1 hw1 =>
          same1_calls w1 k1 k2 p1 p2 n1 n2 t1 t2 a1 a2 cc1 cc2 _ _ _ _ (((ra.mono attrE_keeps hsz).keep attrE_keeps hw1 (Nat.le_refl _)).mono attrE_keeps hw1.size) (((sa.mono attrE_keeps hsz).keep attrE_keeps hw1 (Nat.le_refl _)).mono attrE_keeps hw1.size)
            (((rk.mono (intE_keeps _) hsz).keep (intE_keeps _) hw1 (Nat.le_refl _)).mono (intE_keeps _) hw1.size) (((sk.mono (intE_keeps _) hsz).keep (intE_keeps _) hw1 (Nat.le_refl _)).mono (intE_keeps _) hw1.size)
        by_cases hxy : (⟨k1, n1, t1, a1, p1, cc1⟩ : Nd) = ⟨k2, n2, t2, a2, p2, cc2⟩
        · rw [decide_eq_true hxy] at hs
          have Hs := Lib.hid hs; have Hb := Lib.hid hb; have Hnx := Lib.hid (hnx hxy)
          clear hs hb hall hnx hno hxy hx hy ra rk sa sk
          go_wp2_with (go_at_call 73; refine (Hs.out _ (((Below.refl _ _).alloc (Nat.le_refl _) _).alloc (by simp) _)).mono ?_; rintro e w5 ⟨rfl, hb5⟩; have Hb5 := Lib.hid (bthen (((Below.refl wr.heap.size wr).alloc (Nat.le_refl _) _).alloc (by simp) _) hb5); clear hb5)
          go_roundw
          case rel => exact ⟨k + 1, by omega, by go_num, bthen Hb.out Hb5.out, Hnx.out⟩
          case measure => simp [intOf]; omega
        · rw [decide_eq_false hxy] at hs
          have Hs := Lib.hid hs; have Hb := Lib.hid hb; have Hno := Lib.hid (hno hxy)
          clear hs hb hall hnx hno hxy hx hy ra rk sa sk
          go_wp2_with (go_at_call 73; refine (Hs.out _ (((Below.refl _ _).alloc (Nat.le_refl _) _).alloc (by simp) _)).mono ?_; rintro e w5 ⟨rfl, hb5⟩; have Hb5 := Lib.hid (bthen (((Below.refl wr.heap.size wr).alloc (Nat.le_refl _) _).alloc (by simp) _) hb5); clear hb5)
          go_ret
          exact ⟨ret_bool Hno.out.symm, bthen Hb.out Hb5.out⟩
      · have hr := Heq.out (fun j ha hb => hall j ha hb (by omega))
        have Hr := Lib.hid hr; have Hb := Lib.hid hb
        clear hb hall hr
        obtain rfl : k = a.length := by omega
        go_wp2_with fail
        go_ret
        exact ⟨ret_bool Hr.out.symm, Hb.out⟩
theorem Same_calls (w : World) (v1 v2 : Value) (a b : Fo) (h1 : RdF w.heap.size w v1 a) (h2 : RdF w.heap.size w v2 b) :
    Calls Tryz.prog 28 #[v1, v2] w fun e w' => e = .returned (.bool (decide (a = b))) ∧ Below w.heap.size w w' := by
  have hE := EqualFunc_calls w v1 v2 a b h1 h2
  obtain ⟨A1, c1, rfl, _, _, _⟩ := h1.form
  obtain ⟨A2, c2, rfl, _, _, _⟩ := h2.form
  have HE := Lib.hid hE
  clear hE h1 h2
  go_enter Tryz.func28, Tryz.ntmps28
  go_wp2_with (go_at_call 72; refine (HE.out).mono ?_; rintro e w5 ⟨rfl, hb5⟩)
  go_ret
  exact ⟨rfl, hb5⟩
end Go.Proofs.YthdenkkllpkplaaGreat.FSameF
end
section
/- What the laws of operations say, of the plain functions: a fresh node, an attribute. No program. -/
namespace Go.Proofs.YthdenkkllpkplaaGreat.FS
open Go.Proofs.YthdenkkllpkplaaGreat.WS
set_option linter.unusedVariables false

theorem firstE_two (a b : Int) (p q : Bool) : firstE [(a, p), (b, q)] = if p = true then (if q = true then 0 else b) else a := by
  unfold firstE
  cases p <;> cases q <;> simp
theorem one_fresh {f : Fo} {o : Opn} (hm : mayB f = true) (hmo : mayO o = true) (hk : o.kind ≤ 3) :
    (oneE f o = 0 ∧ oneF f o = f ++ [{ kind := o.kind, name := o.name, text := o.text, parent := -1 }]) ∨ ((oneE f o = 74 ∨ (oneE f o = 2 ∧ f.length = 60)) ∧ oneF f o = f) := by
  have hk1 := (mayO_kind hmo).1
  have hl := (may_len hm).2
  have hck : ∃ p, checks f o = [(74, p), (2, roomB f)] := by
    unfold checks
    split
    · exact ⟨_, rfl⟩
    · rw [if_pos (by omega)]; exact ⟨_, rfl⟩
  obtain ⟨p, hck⟩ := hck
  have he : oneE f o = if p = true then (if roomB f = true then 0 else 2) else 74 := by
    unfold oneE
    rw [if_pos hmo, hck, firstE_two]
  by_cases h0 : oneE f o = 0
  · left
    refine ⟨h0, ?_⟩
    unfold oneF doF freshF
    rw [if_pos h0, if_pos hk]
  · right
    refine ⟨?_, by unfold oneF; rw [if_neg h0]⟩
    rw [he] at h0 ⊢
    split at h0
    · rename_i hp
      rw [if_pos hp]
      split at h0
      · exact absurd rfl h0
      · rename_i hr
        rw [if_neg hr]
        unfold roomB at hr
        rw [decide_eq_true_eq] at hr
        exact .inr ⟨rfl, by omega⟩
    · rename_i hp
      rw [if_neg hp]
      exact .inl rfl
theorem findA_first {l : List Av} {s : ByteArray} {i : Nat} (hi : i < l.length) (h : l[i].name = s) (hn : ∀ j (hj : j < l.length), j < i → l[j].name ≠ s) : findA l s = some i := by
  unfold findA
  rw [List.findIdx?_eq_some_iff_getElem]
  exact ⟨hi, decide_eq_true h, fun j hj => by simp only [decide_eq_true_eq]; exact hn j _ hj⟩
theorem names_ne {l : List Av} (h : (l.map (·.name.data.toList)).Nodup) {i j : Nat} (hi : i < l.length) (hj : j < l.length) (hne : i ≠ j) : l[i].name ≠ l[j].name := fun e => by
  have h2 := List.pairwise_iff_getElem.1 h
  rcases Nat.lt_or_gt_of_ne hne with hlt | hlt
  · exact h2 i j (by simpa using hi) (by simpa using hj) hlt (by rw [List.getElem_map, List.getElem_map, e])
  · exact h2 j i (by simpa using hj) (by simpa using hi) hlt (by rw [List.getElem_map, List.getElem_map, e])
def sameA (s t : ByteArray) (a : Av) : Bool := decide (a.name = s) && decide (a.value = t)
theorem setA_facts {l : List Av} {s t : ByteArray} (h : (l.map (·.name.data.toList)).Nodup) :
    (setA l s t).length = l.length + 1 - (if (findA l s).isSome then 1 else 0) ∧ (setA l s t).countP (sameA s t) = 1 ∧ (∃ i, findA (setA l s t) s = some i) ∧ (delA (setA l s t) s).length = l.length - (if (findA l s).isSome then 1 else 0) ∧ (findA l s = none → delA (setA l s t) s = l) := by
  unfold setA
  cases hf : findA l s with
  | some i =>
    obtain ⟨hi, he⟩ := findA_some hf
    have hfi : findA (l.set i ⟨s, t⟩) s = some i := findA_first (by rw [List.length_set]; exact hi) (by rw [List.getElem_set_self]) (fun j hj hlt => by
      rw [List.length_set] at hj
      rw [List.getElem_set_ne (by omega)]
      exact fun e => names_ne h hj hi (by omega) (e.trans he.symm))
    refine ⟨?_, ?_, ⟨i, hfi⟩, ?_, fun h => by cases h⟩
    · rw [List.length_set]; simp
    · have hsplit : l.set i ⟨s, t⟩ = l.take i ++ ⟨s, t⟩ :: l.drop (i + 1) := List.set_eq_take_append_cons_drop.trans (if_pos hi)
      have hz1 : (l.take i).countP (sameA s t) = 0 := by
        rw [List.countP_eq_zero]
        intro a ha
        obtain ⟨j, hj, rfl⟩ := List.mem_iff_getElem.1 ha
        rw [List.length_take] at hj
        rw [List.getElem_take]
        have := names_ne h (i := j) (j := i) (by omega) hi (by omega)
        rw [he] at this
        unfold sameA
        simp [this]
      have hz2 : (l.drop (i + 1)).countP (sameA s t) = 0 := by
        rw [List.countP_eq_zero]
        intro a ha
        obtain ⟨j, hj, rfl⟩ := List.mem_iff_getElem.1 ha
        rw [List.length_drop] at hj
        rw [List.getElem_drop]
        have := names_ne h (i := i + 1 + j) (j := i) (by omega) hi (by omega)
        rw [he] at this
        unfold sameA
        simp [this]
      show (l.set i (⟨s, t⟩ : Av)).countP (sameA s t) = 1
      rw [hsplit, List.countP_append, List.countP_cons, hz1, hz2]
      simp [sameA]
    · show (delA (l.set i (⟨s, t⟩ : Av)) s).length = _
      unfold delA
      rw [hfi]
      show ((l.set i (⟨s, t⟩ : Av)).eraseIdx i).length = _
      rw [List.length_eraseIdx_of_lt (by rw [List.length_set]; exact hi), List.length_set]
      simp
  | none =>
    have hne := findA_none hf
    have hfi : findA (l ++ [⟨s, t⟩]) s = some l.length := findA_first (by simp) (by simp) (fun j hj hlt => by
      rw [List.getElem_append_left hlt]
      exact hne _ (List.getElem_mem _))
    refine ⟨by simp, ?_, ⟨_, hfi⟩, ?_, fun _ => ?_⟩
    · have hz : l.countP (sameA s t) = 0 := by
        rw [List.countP_eq_zero]
        intro a ha
        unfold sameA
        simp [hne a ha]
      show (l ++ [(⟨s, t⟩ : Av)]).countP (sameA s t) = 1
      rw [List.countP_append, hz]
      simp [sameA]
    · show (delA (l ++ [(⟨s, t⟩ : Av)]) s).length = _
      unfold delA
      rw [hfi]
      show ((l ++ [(⟨s, t⟩ : Av)]).eraseIdx l.length).length = _
      rw [List.length_eraseIdx_of_lt (by simp)]
      simp
    · show delA (l ++ [(⟨s, t⟩ : Av)]) s = l
      unfold delA
      rw [hfi]
      show (l ++ [(⟨s, t⟩ : Av)]).eraseIdx l.length = l
      rw [List.eraseIdx_append_of_length_le (Nat.le_refl _), Nat.sub_self]
      simp
/-- Is an attribute of the name there? -/
def hadN (l : List Av) (s : ByteArray) : Nat := if (findA l s).isSome then 1 else 0
theorem had_any (l : List Av) (s : ByteArray) : hadN l s = if l.any (fun a => decide (a.name = s)) then 1 else 0 := by
  unfold hadN
  cases hf : findA l s with
  | some i =>
    obtain ⟨hi, he⟩ := findA_some hf
    rw [if_pos (by rfl), if_pos]
    rw [List.any_eq_true]
    exact ⟨l[i], List.getElem_mem _, decide_eq_true he⟩
  | none =>
    rw [if_neg (by simp), if_neg]
    rw [List.any_eq_true]
    rintro ⟨a, ha, he⟩
    exact findA_none hf a ha (of_decide_eq_true he)
theorem one_attrs {f : Fo} {n : Nat} {s t : ByteArray} (hm : mayB f = true) (hn : n < f.length) (hs : s.size ≤ 100) (ht : t.size ≤ 100) (o d : Opn) (ho : o = { kind := 6, id := n, name := s, text := t }) (hd : d = { kind := 7, id := n, name := s }) :
    (oneE f o ≠ 0 ∧ oneF f o = f ∧ (oneE f o = 71 ∨ oneE f o = 74 ∨ oneE f o = 75)) ∨
    (oneE f o = 0 ∧ (oneF f o).length = f.length ∧ (at_ (oneF f o) n).attrs = setA (at_ f n).attrs s t ∧ oneE (oneF f o) d = 0 ∧ (oneF (oneF f o) d).length = f.length ∧ (at_ (oneF (oneF f o) d) n).attrs = delA (setA (at_ f n).attrs s t) s ∧
      ((at_ f n).attrs.map (·.name.data.toList)).Nodup ∧ (delA (setA (at_ f n).attrs s t) s = (at_ f n).attrs → oneF (oneF f o) d = f)) := by
  have hmo : mayO o = true := by rw [ho]; exact mayO_6 _ (by omega) (by omega)
  have hmd : mayO d = true := by rw [hd]; exact mayO_7 _ (by omega)
  have hko : o.kind = 6 := by rw [ho]
  have hkd : d.kind = 7 := by rw [hd]
  have hio : o.id = n := by rw [ho]
  have hid : d.id = n := by rw [hd]
  have hno : isNode f n = true := nodeI hn
  have hco : checks f o = [(70, knownB f o), (71, elemB f o), (74, namedB o), (75, hasA f o || decide ((at_ f o.id).attrs.length < 8))] := by
    unfold checks
    rw [if_neg (by omega), if_neg (by omega), if_neg (by omega), if_neg (by omega), if_pos hko]
  have heo : oneE f o = firstE (checks f o) := if_pos hmo
  by_cases h0 : oneE f o = 0
  · right
    have hch := (one_kinds h0).2
    rw [hco] at hch
    have c2 := hch (71, elemB f o) (by simp)
    unfold elemB at c2
    simp only [beq_iff_eq] at c2
    rw [hio] at c2
    obtain ⟨g, hg⟩ : ∃ g, g = f.set n { at_ f n with attrs := setA (at_ f n).attrs s t } := ⟨_, rfl⟩
    have h1 : oneF f o = g := by
      unfold oneF doF
      rw [if_pos h0, if_neg (by omega), if_neg (by omega), if_neg (by omega), if_pos hko, hg, ho, Int.toNat_natCast]
    have hpl := ((may_is hm).node n hn).1
    have hat : attrsB (at_ f n).attrs = true := by
      unfold plainB at hpl
      rw [if_neg (by omega), if_pos c2] at hpl
      simp only [Bool.and_eq_true] at hpl
      exact hpl.2
    have hnd := ((attrsB_iff _).1 hat).2.1
    obtain ⟨f1, f2, ⟨fi, f3⟩, f4, f5⟩ := setA_facts (s := s) (t := t) hnd
    have hgl : g.length = f.length := by rw [hg, List.length_set]
    have hgn : at_ g n = { at_ f n with attrs := setA (at_ f n).attrs s t } := by rw [hg, set_at hn, if_pos rfl]
    have hcd : checks g d = [(70, knownB g d), (71, elemB g d), (75, hasA g d)] := by
      unfold checks
      rw [if_neg (by omega), if_neg (by omega), if_neg (by omega), if_neg (by omega), if_neg (by omega), if_pos hkd]
    have k1 : knownB g d = true := by unfold knownB; rw [hid]; exact nodeI (by omega)
    have k2 : elemB g d = true := by unfold elemB; rw [hid, hgn]; simp [c2]
    have k3 : hasA g d = true := by unfold hasA; rw [hid, hgn, hd]; simp only; rw [f3]; rfl
    have hed : oneE g d = 0 := by
      unfold oneE
      rw [if_pos hmd, hcd, k1, k2, k3]
      rfl
    have h2 : oneF g d = g.set n { at_ g n with attrs := delA (at_ g n).attrs s } := by
      unfold oneF doF
      rw [if_pos hed, if_neg (by omega), if_neg (by omega), if_neg (by omega), if_neg (by omega), if_pos hkd, hd, Int.toNat_natCast]
    have hn2 : n < g.length := by omega
    rw [h1]
    refine ⟨h0, hgl, by rw [hgn], hed, by rw [h2, List.length_set, hgl], by rw [h2, set_at hn2, if_pos rfl, hgn], hnd, fun hdel => ?_⟩
    rw [h2, hgn]
    simp only
    rw [hdel, hg, List.set_set, at_nat' hn]
    exact List.set_getElem_self _
  · left
    refine ⟨h0, by unfold oneF; rw [if_neg h0], ?_⟩
    have k1 : knownB f o = true := by unfold knownB; rw [hio]; exact hno
    rw [heo, hco, k1] at h0 ⊢
    clear heo hco
    generalize elemB f o = p at *
    generalize namedB o = q at *
    generalize (hasA f o || decide ((at_ f o.id).attrs.length < 8)) = r at *
    cases p <;> cases q <;> cases r <;> simp [firstE] at h0 ⊢
  where at_nat' {f : Fo} {n : Nat} (hn : n < f.length) : at_ f (n : Int) = f[n] := atN hn
end Go.Proofs.YthdenkkllpkplaaGreat.FS
end
section
/- What is moved, and moved back, is where it was. No program. -/
namespace Go.Proofs.YthdenkkllpkplaaGreat.FS
open Go.Proofs.YthdenkkllpkplaaGreat.WS
set_option linter.unusedVariables false

theorem fo_ext {f g : Fo} (hl : g.length = f.length) (h : ∀ i : Nat, i < f.length → at_ g i = at_ f i) : g = f := by
  refine List.ext_getElem hl (fun i h1 h2 => ?_)
  rw [← atN h1, ← atN h2]
  exact h i h2
theorem part_at {l : List Int} {x : Int} {i : Nat} (hi : i < l.length) (he : l[i] = x) : ∃ a b, l = a ++ x :: b ∧ a.length = i := by
  refine ⟨l.take i, l.drop (i + 1), ?_, by rw [List.length_take]; omega⟩
  rw [← he, ← List.drop_eq_getElem_cons hi, List.take_append_drop]
theorem part_once {a b : List Int} {x : Int} (hc : (a ++ x :: b).count x = 1) : x ∉ a ∧ x ∉ b := by
  rw [List.count_append, List.count_cons_self] at hc
  exact ⟨fun h => by have := List.count_pos_iff.2 h; omega, fun h => by have := List.count_pos_iff.2 h; omega⟩
theorem part_filter {a b : List Int} {x : Int} (hc : (a ++ x :: b).count x = 1) : (a ++ x :: b).filter (· != x) = a ++ b := by
  obtain ⟨h1, h2⟩ := part_once hc
  rw [List.filter_append, filter_none h1, List.filter_cons_of_neg (by simp), filter_none h2]
theorem insert_filter {a b : List Int} {x : Int} (hc : (a ++ x :: b).count x = 1) : insertL ((a ++ x :: b).filter (· != x)) a.length x = a ++ x :: b := by
  rw [part_filter hc]
  unfold insertL
  rw [List.take_left', List.drop_left'] <;> rfl
theorem filter_insert (l : List Int) (x : Int) (i : Nat) : (insertL (l.filter (· != x)) i x).filter (· != x) = l.filter (· != x) := by
  unfold insertL
  rw [List.filter_append, List.filter_cons_of_neg (by simp), ← List.filter_append, List.take_append_drop, List.filter_filter]
  simp
theorem len_filter (x : Int) : ∀ l : List Int, l.length = (l.filter (· != x)).length + l.count x
  | [] => rfl
  | y :: l => by
    have := len_filter x l
    by_cases h : y = x
    · subst h
      rw [List.filter_cons_of_neg (by simp), List.count_cons_self, List.length_cons]
      omega
    · rw [List.filter_cons_of_pos (by simp [h]), List.count_cons_of_ne h, List.length_cons, List.length_cons]
      omega
theorem reach_other {f g : Fo} {n : Int} (hp : ∀ j, j ≠ n → (at_ g j).parent = (at_ f j).parent) : ∀ (m : Nat) (j : Int), Reach g m j n → ∃ m', Reach f m' j n
  | 0, j, h => ⟨0, h⟩
  | m + 1, j, h => by
    by_cases e : j = n
    · exact ⟨0, e⟩
    · obtain ⟨m', h'⟩ := reach_other hp m _ h.2
      rw [hp j e] at h'
      exact ⟨m' + 1, h.1, h'⟩
theorem plain_kind {n : Nd} (h : plainB n = true) : n.kind = 0 ∨ n.kind = 1 ∨ ((n.kind = 2 ∨ n.kind = 3) ∧ n.kids = []) := by
  unfold plainB at h
  by_cases h0 : n.kind = 0
  · exact .inl h0
  by_cases h1 : n.kind = 1
  · exact .inr (.inl h1)
  rw [if_neg h0, if_neg h1] at h
  by_cases h2 : n.kind = 2 ∨ n.kind = 3
  · rw [if_pos h2] at h
    simp only [Bool.and_eq_true, decide_eq_true_eq] at h
    exact .inr (.inr ⟨h2, h.2⟩)
  · rw [if_neg h2] at h
    cases h
/-- g is f, but that node n lies elsewhere. -/
structure Moved (f g : Fo) (n : Nat) : Prop where
  may : mayB g = true
  len : g.length = f.length
  same : ∀ j : Int, (at_ g j).kind = (at_ f j).kind ∧ (at_ g j).name = (at_ f j).name ∧ (at_ g j).text = (at_ f j).text ∧ (at_ g j).attrs = (at_ f j).attrs
  par : ∀ j : Int, j ≠ (n : Int) → (at_ g j).parent = (at_ f j).parent
  kids : ∀ j : Int, (at_ g j).kids.filter (· != (n : Int)) = (at_ f j).kids.filter (· != (n : Int))
theorem moved_back {f g : Fo} {n p place : Nat} (hmf : mayB f = true) (M : Moved f g n) (hn : n < f.length) (hp : p < f.length) (he : (at_ f n).parent = p) (hpl : place < (at_ f p).kids.length) (hat : (at_ f p).kids[place] = n) (o : Opn) (ho : o = { kind := 4, id := n, «to» := p, at_ := place }) :
    oneE g o = 0 ∧ oneF g o = f := by
  have hf := may_is hmf
  have hg := may_is M.may
  have hn0 : n ≠ 0 := fun e => by
    have := hf.root
    subst e
    rw [Int.natCast_zero] at he
    omega
  have hcnt := (hf.par n hn).2.2 (by omega)
  rw [he] at hcnt
  obtain ⟨a, b, hab, hal⟩ := part_at hpl hat
  have hmem : (n : Int) ∈ (at_ f p).kids := by rw [hab]; simp
  have hc' := hcnt
  rw [hab] at hc'
  have hfil : (at_ f p).kids.filter (· != (n : Int)) = a ++ b := by rw [hab]; exact part_filter hc'
  have hkp : (at_ f p).kind = 0 ∨ (at_ f p).kind = 1 := by
    rcases plain_kind (hf.node p hp).1 with h | h | ⟨_, h⟩
    · exact .inl h
    · exact .inr h
    · rw [h] at hmem; cases hmem
  have hkn : (at_ f n).kind ≠ 0 := fun e => hn0 ((hf.node n hn).2.1 e)
  have k1 : knownB g o = true := by unfold knownB; rw [ho]; exact nodeI (by rw [M.len]; exact hn)
  have k2 : isNode g o.to = true := by rw [ho]; exact nodeI (by rw [M.len]; exact hp)
  have k3 : liesB g o = true := by
    unfold liesB
    rw [ho]
    simp only
    rw [(M.same p).1, (M.same n).1, if_neg (by omega)]
    by_cases hp0 : (p : Int) ≠ 0 ∨ (at_ f n).kind = 3
    · rw [if_pos hp0]
    · rw [if_neg hp0]
      have hp1 : p = 0 := by omega
      subst hp1
      have hd : (at_ f n).kind = 1 := by
        rcases plain_kind (hf.node n hn).1 with h | h | ⟨h | h, _⟩
        · exact absurd h hkn
        · exact h
        · exact absurd h (hf.doc n hmem)
        · exact absurd h (fun e => hp0 (.inr e))
      rw [hd]
      simp only [beq_self_eq_true, Bool.true_and, Bool.not_eq_true', List.any_eq_false, Bool.and_eq_true, bne_iff_ne, beq_iff_eq, not_and]
      intro k hk hne hk1
      have h1 : k ∈ (at_ f (0 : Nat)).kids.filter (· != (n : Int)) := by
        rw [← M.kids]
        exact List.mem_filter.2 ⟨hk, by simpa using hne⟩
      rw [hfil] at h1
      rw [(M.same k).1] at hk1
      have hone := hf.one
      rw [show (at_ f 0).kids = a ++ (n : Int) :: b from hab] at hone
      unfold elems at hone
      rw [List.countP_append, List.countP_cons_of_pos (by simp [hd])] at hone
      have ha0 : a.countP (fun k => (at_ f k).kind == 1) = 0 := by omega
      have hb0 : b.countP (fun k => (at_ f k).kind == 1) = 0 := by omega
      rw [List.countP_eq_zero] at ha0 hb0
      rcases List.mem_append.1 h1 with h | h
      · exact ha0 k h (by simp [hk1])
      · exact hb0 k h (by simp [hk1])
  have k4 : belowB g o.id o.to = false := by
    rw [Bool.eq_false_iff]
    intro h
    rw [below_iff M.may k2] at h
    rw [ho] at h
    obtain ⟨h0, m, hm⟩ := h
    obtain ⟨m', h'⟩ := reach_other M.par m _ hm
    exact no_cycle (f := f) (m := m') (i := (n : Int)) ⟨h0, by rw [he]; exact h'⟩ (hf.climb n hn)
  have k5 : fitsB g o = true := by
    unfold fitsB
    rw [ho]
    simp only [decide_eq_true_eq]
    have hlf := len_filter (n : Int) (at_ g p).kids
    rw [M.kids, hfil, List.length_append] at hlf
    refine ⟨by omega, ?_⟩
    split
    · rename_i e
      have := (hg.par n (by rw [M.len]; exact hn)).2.2 (by omega)
      rw [e] at this
      omega
    · rename_i e
      omega
  have hmo : mayO o = true := by
    rw [ho]
    exact mayO_4 _ _ _
  have hko : o.kind = 4 := by rw [ho]
  have hE : oneE g o = 0 := by
    unfold oneE checks
    rw [if_pos hmo, if_neg (by omega), if_neg (by omega), if_pos hko, k1, k2, k3, k4, k5]
    rfl
  refine ⟨hE, ?_⟩
  unfold oneF doF
  rw [if_pos hE, if_neg (by omega), if_pos hko]
  refine fo_ext (by rw [insert_length, M.len]) (fun j hj => ?_)
  rw [insert_at hg (i := n) (t := p) (by rw [ho]) (by rw [ho]) (by rw [M.len]; exact hn) (by rw [M.len]; exact hp)]
  obtain ⟨s1, s2, s3, s4⟩ := M.same j
  have e5 : (if (j : Int) = (n : Int) then (p : Int) else (at_ g j).parent) = (at_ f j).parent := by
    by_cases e : (j : Int) = (n : Int)
    · rw [if_pos e, e, he]
    · rw [if_neg e, M.par _ e]
  have e6 : (if (j : Int) = (p : Int) then insertL ((at_ g j).kids.filter (· != (n : Int))) o.at_.toNat n else (at_ g j).kids.filter (· != (n : Int))) = (at_ f j).kids := by
    rw [M.kids]
    by_cases e : (j : Int) = (p : Int)
    · rw [if_pos e, e, hab, show o.at_.toNat = a.length by rw [ho, hal]; exact Int.toNat_natCast _]
      exact insert_filter hc'
    · rw [if_neg e, filter_none (not_kid hf (by rw [he]; exact fun x => e x.symm))]
  rw [e5, e6]
  generalize at_ g (j : Int) = x at *
  generalize at_ f (j : Int) = y at *
  cases x
  cases y
  simp only at s1 s2 s3 s4
  simp [s1, s2, s3, s4]
theorem move_there {f : Fo} {n p place : Nat} (hmf : mayB f = true) (hn : n < f.length) (hp : p < f.length) (he : (at_ f n).parent = p) (hpl : place < (at_ f p).kids.length) (hat : (at_ f p).kids[place] = n) (o b : Opn) (hk : o.kind = 4) (hi : o.id = n) (hE : oneE f o = 0) (hb : b = { kind := 4, id := n, «to» := p, at_ := place }) :
    (oneF f o).length = f.length ∧ oneE (oneF f o) b = 0 ∧ oneF (oneF f o) b = f := by
  have hf := may_is hmf
  obtain ⟨_, hch⟩ := one_kinds hE
  unfold checks at hch
  rw [if_neg (by omega), if_neg (by omega), if_pos hk] at hch
  obtain ⟨t, hot, ht⟩ := node_nat (k := o.to) (hch (70, isNode f o.to) (by simp))
  have hF : oneF f o = insertF f o := by
    unfold oneF doF
    rw [if_pos hE, if_neg (by omega), if_pos hk]
  have hl : (oneF f o).length = f.length := by rw [hF, insert_length]
  have hat' := insert_at hf hi hot hn ht
  refine ⟨hl, moved_back hmf ⟨one_may hmf o, hl, fun j => ?_, fun j hj => ?_, fun j => ?_⟩ hn hp he hpl hat b hb⟩
  · rw [hF, hat']; exact ⟨rfl, rfl, rfl, rfl⟩
  · rw [hF, hat']; simp only; rw [if_neg hj]
  · rw [hF, hat']
    simp only
    split
    · exact filter_insert _ _ _
    · rw [List.filter_filter]; simp
theorem move_off {f : Fo} {n p place : Nat} (hmf : mayB f = true) (hn : n < f.length) (hp : p < f.length) (he : (at_ f n).parent = p) (hpl : place < (at_ f p).kids.length) (hat : (at_ f p).kids[place] = n) (o b : Opn) (ho : o = { kind := 5, id := n }) (hb : b = { kind := 4, id := n, «to» := p, at_ := place }) :
    oneE f o = 0 ∧ (oneF f o).length = f.length ∧ (at_ (oneF f o) n).parent = -1 ∧ oneE (oneF f o) b = 0 ∧ oneF (oneF f o) b = f := by
  have hf := may_is hmf
  have hn0 : n ≠ 0 := fun e => by
    have := hf.root
    subst e
    rw [Int.natCast_zero] at he
    omega
  have hmo : mayO o = true := by
    rw [ho]
    exact mayO_5 _
  have hko : o.kind = 5 := by rw [ho]
  have hE : oneE f o = 0 := by
    have k1 : knownB f o = true := by unfold knownB; rw [ho]; exact nodeI hn
    have k2 : (o.id != 0) = true := by rw [ho, bne_iff_ne]; show (n : Int) ≠ 0; omega
    have k3 : ((at_ f o.id).parent != -1) = true := by rw [ho, bne_iff_ne]; show (at_ f (n : Int)).parent ≠ -1; omega
    unfold oneE checks
    rw [if_pos hmo, if_neg (by omega), if_neg (by omega), if_neg (by omega), if_pos hko, k1, k2, k3]
    rfl
  have hF : oneF f o = takeF f n := by
    unfold oneF doF
    rw [if_pos hE, if_neg (by omega), if_neg (by omega), if_pos hko, ho]
  have hl : (oneF f o).length = f.length := by rw [hF, take_length]
  have hat' := take_at hf hn
  refine ⟨hE, hl, by rw [hF, hat', if_pos rfl], moved_back hmf ⟨one_may hmf o, hl, fun j => ?_, fun j hj => ?_, fun j => ?_⟩ hn hp he hpl hat b hb⟩
  · rw [hF, hat']; exact ⟨rfl, rfl, rfl, rfl⟩
  · rw [hF, hat']; simp only; rw [if_neg hj]
  · rw [hF, hat']
    simp only
    rw [List.filter_filter]; simp
end Go.Proofs.YthdenkkllpkplaaGreat.FS
end
