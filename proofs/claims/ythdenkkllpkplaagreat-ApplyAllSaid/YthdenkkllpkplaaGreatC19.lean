/- Joined by a program: R5B, R5C, R5D, R7H, R7F. -/
import Derived.Deep.AppendLies
import Derived.Deep.RegionHeld3
import Derived.Test.YthdenkkllpkplaaGreatC16
import Derived.Test.YthdenkkllpkplaaGreatC17
import Derived.Test.YthdenkkllpkplaaGreatC18
import Derived.Test.YthdenkkllpkplaaGreatC14
import Derived.Test.YthdenkkllpkplaaGreatC06
section
/- treillageref05: alone, placed, of what may be. -/
namespace Go.Proofs.YthdenkkllpkplaaGreat.R5
open Go Go.RowKit Go.Proofs.YthdenkkllpkplaaGreat.Seq Go.Proofs.YthdenkkllpkplaaGreat.WS Go.Proofs.YthdenkkllpkplaaGreat.FS Go.Proofs.YthdenkkllpkplaaGreat.Mem Go.Proofs.YthdenkkllpkplaaGreat.Rd Go.Proofs.YthdenkkllpkplaaGreat.Word Go.Proofs.YthdenkkllpkplaaGreat.Shapes Go.Proofs.YthdenkkllpkplaaGreat.FFam
set_option linter.unusedVariables false
set_option linter.unusedSimpArgs false
set_option maxRecDepth 100000 in
set_option maxHeartbeats 4000000 in
theorem alone_calls (w : World) (n : Nd) (Aa Ak : Option Addr) (ca ck : Nat) (hp : plainB n = true) (ra : RdL attrE 2 w.heap.size w (.slice Aa n.attrs.length ca) n.attrs) (hs : n.name.size ≤ 9223372036854775807) (hk : n.kids.length ≤ 1000) :
    Calls Tryz.prog 195 #[.agg #[.int .i64 n.kind, .string n.name, .string n.text, .slice Aa n.attrs.length ca, .int .i64 n.parent, .slice Ak n.kids.length ck]] w fun e w' => e = .returned (.bool true) ∧ Below w.heap.size w w' := by
  obtain ⟨kd, nm, tx, ats, par, kks⟩ := n
  simp only at *
  obtain ⟨W0, hW0⟩ : ∃ W0, w.alloc (.cells #[.int .i64 kd, .string nm, .string tx, .slice Aa ats.length ca, .int .i64 par, .slice Ak kks.length ck] 86) = W0 := ⟨_, rfl⟩
  have hrow : W0.heap[w.heap.size]? = some (.cells (R7.ndRow ⟨kd, nm, tx, ats, par, kks⟩ (.slice Aa ats.length ca) (.slice Ak kks.length ck)) 86 (0, 0)) := by rw [← hW0]; exact World.alloc_heap_new w _
  have hb0 : Below w.heap.size w W0 := by rw [← hW0]; exact (Below.refl _ _).alloc (Nat.le_refl _) _
  obtain ⟨z0, z1, z2, z3, z4, z5, zf⟩ := R7.row_cells hrow
  simp only at z0 z1 z2 z4
  have hra := (ra.below attrE_keeps (w' := W0) hb0 (Nat.le_refl _)).mono attrE_keeps hb0.size
  have HW0 := Lib.hid hW0; have HB0 := Lib.hid hb0
  unfold plainB at hp
  simp only at hp
  clear hW0 hb0 hrow ra
  by_cases k0 : kd = 0
  · rw [if_pos k0] at hp
    simp only [Bool.and_eq_true, decide_eq_true_eq] at hp
    obtain ⟨⟨h1, h2⟩, h3⟩ := hp
    obtain rfl := empty_is h1
    obtain rfl := empty_is h2
    subst h3 k0
    have hw := HW0.out
    simp only [List.length_nil] at hw z3
    clear h1 h2 hra
    go_enter Tryz.func195, Tryz.ntmps195
    go_upto_region 1 with fail
    try rw [hw]
    go_wp2_with fail
    go_ret
    exact ⟨rfl, HB0.out⟩
  by_cases k1 : kd = 1
  · rw [if_neg k0, if_pos k1] at hp
    simp only [Bool.and_eq_true, decide_eq_true_eq] at hp
    obtain ⟨⟨h1, h2⟩, h3⟩ := hp
    obtain rfl := empty_is h2
    subst k1
    have hN := fun w => R2.Name_calls nm hs w
    rw [h1] at hN
    have hA := attrs_calls W0 _ _ hra h3
    have HN := Lib.hid hN; have HA := Lib.hid hA
    clear h1 h2 h3 hra hN hA k0
    go_enter Tryz.func195, Tryz.ntmps195
    go_upto_region 1 with fail
    rw [HW0.out]
    go_wp2_with (first | (go_at_call 61; (with_reducible refine (HN.out _).mono ?_); rintro e w5 ⟨rfl, rfl⟩) | (go_at_call 209; (with_reducible refine (HA.out).mono ?_); rintro e w5 ⟨rfl, hb5⟩; have Hb5 := Lib.hid hb5; clear hb5))
    go_ret
    exact ⟨rfl, bthen HB0.out Hb5.out⟩
  by_cases k2 : kd = 2 ∨ kd = 3
  · rw [if_neg k0, if_neg k1, if_pos k2] at hp
    simp only [Bool.and_eq_true, decide_eq_true_eq] at hp
    obtain ⟨⟨⟨h1, h2⟩, h3⟩, h4⟩ := hp
    obtain rfl := empty_is h1
    subst h3 h4
    have hT := fun w => R2.Text_calls tx w
    rw [h2] at hT
    have HT := Lib.hid hT
    clear h1 h2 hra hT k0 k1
    rcases k2 with rfl | rfl
    all_goals
      have hw := HW0.out
      simp only [List.length_nil] at hw z3 z5
      go_enter Tryz.func195, Tryz.ntmps195
      go_upto_region 1 with fail
      try rw [hw]
      go_wp2_with (go_at_call 62; (with_reducible refine (HT.out _).mono ?_); rintro e w5 ⟨rfl, rfl⟩)
      go_ret
      exact ⟨rfl, HB0.out⟩
  · rw [if_neg k0, if_neg k1, if_neg k2] at hp
    cases hp
end Go.Proofs.YthdenkkllpkplaaGreat.R5
end
section
/- treillageref05: placed, of what may be. -/
namespace Go.Proofs.YthdenkkllpkplaaGreat.R5
open Go Go.RowKit Go.Proofs.YthdenkkllpkplaaGreat.Seq Go.Proofs.YthdenkkllpkplaaGreat.WS Go.Proofs.YthdenkkllpkplaaGreat.FS Go.Proofs.YthdenkkllpkplaaGreat.Mem Go.Proofs.YthdenkkllpkplaaGreat.Rd Go.Proofs.YthdenkkllpkplaaGreat.Word Go.Proofs.YthdenkkllpkplaaGreat.Shapes Go.Proofs.YthdenkkllpkplaaGreat.FFam
set_option linter.unusedVariables false
set_option linter.unusedSimpArgs false
theorem elems_take {f : Fo} {l : List Int} {k : Nat} (hk : k < l.length) : elems f (l.take (k + 1)) = elems f (l.take k) + if (at_ f l[k]).kind = 1 then 1 else 0 := by
  unfold elems
  rw [List.take_succ_eq_append_getElem hk, List.countP_append, List.countP_singleton]
  simp
theorem elems_le (f : Fo) (l : List Int) (k : Nat) : elems f (l.take k) ≤ k := Nat.le_trans List.countP_le_length (by rw [List.length_take]; omega)
set_option maxRecDepth 100000 in
set_option maxHeartbeats 8000000 in
theorem placed_calls (w : World) (f : Fo) (v : Value) (h : RdF w.heap.size w v f) (hm : mayB f = true) (i : Nat) (hi : i < f.length) :
    Calls Tryz.prog 196 #[v, .int .i64 (i : Int)] w fun e w' => e = .returned (.bool true) ∧ Below w.heap.size w w' := by
  have hM := may_is hm
  obtain ⟨A0, c0, rfl, hl0, hc0, h'⟩ := h.form
  simp only [maxLen] at hc0
  have hlen := hM.len
  obtain ⟨b, o, Aa, ca, Ak, ck, rfl, hbl, g0, g1, g2, g3, g4, g5, ra, rk, la, lca, lk, lck, m1, m2, m3, m4⟩ := node_at h' hi
  have hpar := hM.par i hi
  have hkids := hM.kids i hi
  have hnode := hM.node i hi
  have hat : at_ f (i : Int) = f[i] := atN hi
  rw [hat] at hpar hkids hnode
  simp only [maxLen] at lck lca
  have hdoc : f[i].kind = 0 → (∀ k ∈ f[i].kids, (at_ f k).kind ≠ 2) ∧ elems f f[i].kids ≤ 1 := fun h0 => by
    have hi0 : i = 0 := hnode.2.1 h0
    subst hi0
    rw [← hat]
    exact ⟨hM.doc, hM.one⟩
  obtain ⟨W0, hW0⟩ : ∃ W0, w.alloc (.cells #[.int .i64 f[i].kind, .string f[i].name, .string f[i].text, .slice Aa f[i].attrs.length ca, .int .i64 f[i].parent, .slice Ak f[i].kids.length ck] 86) = W0 := ⟨_, rfl⟩
  have hrow : W0.heap[w.heap.size]? = some (.cells (R7.ndRow f[i] (.slice Aa f[i].attrs.length ca) (.slice Ak f[i].kids.length ck)) 86 (0, 0)) := by rw [← hW0]; exact World.alloc_heap_new w _
  have hb0 : Below w.heap.size w W0 := by rw [← hW0]; exact (Below.refl _ _).alloc (Nat.le_refl _) _
  obtain ⟨z0, z1, z2, z3, z4, z5, zf⟩ := R7.row_cells hrow
  have hR := (h'.below nodeE_keeps (w' := W0) hb0 (Nat.le_refl _)).mono nodeE_keeps hb0.size
  have hrk := (rk.below (intE_keeps _) (w' := W0) hb0 (Nat.le_refl _)).mono (intE_keeps _) hb0.size
  have hpc : 0 ≤ f[i].parent → ∃ (p : Nat) (Ap : Option Addr) (cp : Nat), f[i].parent = p ∧ p < f.length ∧ W0.cell? ⟨b, o + p * 6 + 5, none⟩ = some (.slice Ap (at_ f (p : Int)).kids.length cp) ∧ ∀ W, W = W0 → Calls Tryz.prog 210 #[.slice Ap (at_ f (p : Int)).kids.length cp, .int .i64 (i : Int)] W fun e w' => e = .returned (.int .i64 1) ∧ W = w' := fun h0 => by
    obtain ⟨p, hp⟩ : ∃ p : Nat, f[i].parent = p := ⟨f[i].parent.toNat, by omega⟩
    have hpl : p < f.length := by have := hpar.2.1; omega
    obtain ⟨b2, o2, _, _, Ap, cp, hA2, _, _, _, _, _, _, y5, _, rk2, _, _, _, _, _, _, _, _⟩ := node_at hR hpl
    injection hA2 with hA2
    injection hA2 with e1 e2 _
    subst e1 e2
    rw [← atN hpl] at y5 rk2
    refine ⟨p, Ap, cp, hp, hpl, y5, fun W hW => ?_⟩
    subst hW
    have := count_calls W _ _ (i : Int) rk2
    have hc := hpar.2.2 h0
    rw [hp] at hc
    rw [hc] at this
    exact this
  have HW0 := Lib.hid hW0; have HB0 := Lib.hid hb0; have HR := Lib.hid hR; have Hrk := Lib.hid hrk; have Hkids := Lib.hid hkids; have Hdoc := Lib.hid hdoc
  clear hW0 hb0 hrow hR hrk hkids hdoc h h' ra rk hnode hat hM
  generalize f[i] = n at *
  obtain ⟨kd, nm, tx, ats, par, kks⟩ := n
  simp only at *
  have hpar1 := hpar.1
  have hpar2 := hpar.2.1
  have hq1 : ¬ par < -1 := by omega
  have hq2 : ¬ (f.length : Int) ≤ par := by omega
  go_enter Tryz.func196, Tryz.ntmps196
  go_upto_region 2 with fail
  try rw [HW0.out]
  go_cut [38] (fun t wy => t = .bool false ∧ wy = W0)
  case first =>
    by_cases h0 : 0 ≤ par
    · obtain ⟨p, Ap, cp, hp, hpl, y5, hc⟩ := hpc h0
      have hc0' := hc W0 rfl
      have Hc := Lib.hid hc0'
      rw [hp] at z4 hq1 hq2
      have hpI : (p : Int) < (f.length : Int) := by omega
      have hp0 : (0 : Int) ≤ (p : Int) := by omega
      clear hpc hc hc0' hpar hpar1 hpar2 h0 hp g0 g1 g2 g3 g4 g5
      go_wp2_with (go_at_call 210; (with_reducible refine (Hc.out).mono ?_); rintro e w5 ⟨rfl, rfl⟩)
      go_meet
      exact ⟨rfl, rfl⟩
    · have h0' : par < 0 := by omega
      clear hpc hpar g0 g1 g2 g3 g4 g5
      go_wp2_with fail
      go_meet
      exact ⟨rfl, rfl⟩
  case rest =>
    obtain ⟨rfl, rfl⟩ := hcut
    clear hpc hpar hpar1 hpar2 hq1 hq2 g0 g1 g2 g3 g4 g5 z4
    go_wp2_with fail
    go_loop [6, 7] (fun e i => ∃ j m : Nat, j ≤ kks.length ∧ m ≤ j ∧ e = .int .i64 m ∧ i = .int .i64 j ∧ Hid (m = elems f (kks.take j))) (fun _ i => kks.length - (intOf i).toNat)
    case atStart => exact ⟨0, 0, Nat.zero_le _, Nat.le_refl _, rfl, rfl, Lib.hid rfl⟩
    case round =>
      obtain ⟨j, m, hj, hmj, rfl, rfl, hme⟩ := hrel
      by_cases hlt : j < kks.length
      · obtain ⟨bk, ok, rfl, hbk, q0, _⟩ := intE_at Hrk.out hlt
        obtain ⟨hn1, hn2⟩ := Hkids.out kks[j] (List.getElem_mem _)
        have hd2 := fun h0 => (Hdoc.out h0).1 kks[j] (List.getElem_mem _)
        have het := elems_take (f := f) hlt
        obtain ⟨q, hq, hql⟩ := node_nat hn1
        obtain ⟨b2, o2, _, _, _, _, hA2, _, y0, _, _, _, y4, _⟩ := node_at HR.out hql
        injection hA2 with hA2
        injection hA2 with e1 e2 _
        subst e1 e2
        rw [hq] at q0 hn2 hd2 het
        rw [atN hql] at hn2 hd2 het
        rw [hn2] at y4
        have hqI : (q : Int) < (f.length : Int) := by omega
        have hq0 : (0 : Int) ≤ (q : Int) := by omega
        have Hd2 := Lib.hid hd2; have Het := Lib.hid het
        clear hd2 het hn1 hn2 hq
        generalize f[q].kind = kq at *
        go_upto_if 73 with fail
        go_cut [6] (fun e wy => e = .int .i64 ((elems f (kks.take (j + 1)) : Nat) : Int) ∧ wy = wc)
        case first =>
          by_cases hk1 : kq = 1
          · have hb1 : (kq == 1) = true := by rw [beq_iff_eq]; exact hk1
            have hr : elems f (kks.take (j + 1)) = m + 1 := by rw [Het.out, if_pos hk1, hme.out]
            have Hr := Lib.hid hr
            have Hmb := Lib.hid (show m + 1 ≤ 9223372036854775807 by omega)
            clear hr hk1
            go_wp2_with fail
            go_meet
            have hmb := Hmb.out
            exact ⟨by rw [Hr.out]; go_num, rfl⟩
          · have hb1 : (kq == 1) = false := by rw [beq_eq_false_iff_ne]; exact hk1
            have hr : elems f (kks.take (j + 1)) = m := by rw [Het.out, if_neg hk1, hme.out]; rfl
            have Hr := Lib.hid hr
            clear hr hk1
            go_wp2_with fail
            go_meet
            exact ⟨by rw [Hr.out], rfl⟩
        case rest =>
          obtain ⟨rfl, rfl⟩ := hcut
          have hle := elems_le f kks (j + 1)
          obtain ⟨E, hE⟩ : ∃ E, E = elems f (kks.take (j + 1)) := ⟨_, rfl⟩
          rw [← hE] at hle ⊢
          have HE := Lib.hid hE
          clear hE
          by_cases h0 : kd = 0
          · have hk2 := Hd2.out h0
            have hb2 : (kq == 2) = false := by rw [beq_eq_false_iff_ne]; exact hk2
            have hb3 : (kd == 0) = true := by rw [beq_iff_eq]; exact h0
            clear hk2
            go_wp2_with fail
            go_round
            case rel => exact ⟨j + 1, E, by omega, by omega, rfl, by go_num, HE⟩
            case measure => simp [intOf]; omega
          · have hb3 : (kd == 0) = false := by rw [beq_eq_false_iff_ne]; exact h0
            go_wp2_with fail
            go_round
            case rel => exact ⟨j + 1, E, by omega, by omega, rfl, by go_num, HE⟩
            case measure => simp [intOf]; omega
      · have hme' : m = elems f kks := by rw [hme.out, List.take_of_length_le (by omega)]
        by_cases h0 : kd = 0
        · have h1 := (Hdoc.out h0).2
          have h2 : (m : Int) ≤ 1 := by omega
          have hb3 : (kd != 0) = false := by rw [bne_eq_false_iff_eq]; exact h0
          clear hme hme' h1
          go_wp2_with fail
          go_ret
          exact ⟨rfl, HB0.out⟩
        · have hb3 : (kd != 0) = true := by rw [bne_iff_ne]; exact h0
          clear hme hme'
          go_wp2_with fail
          go_ret
          exact ⟨rfl, HB0.out⟩
end Go.Proofs.YthdenkkllpkplaaGreat.R5
end
section
/- treillageref05: May, Below, of a forest that may be. -/
namespace Go.Proofs.YthdenkkllpkplaaGreat.R5
open Go Go.RowKit Go.Proofs.YthdenkkllpkplaaGreat.Seq Go.Proofs.YthdenkkllpkplaaGreat.WS Go.Proofs.YthdenkkllpkplaaGreat.FS Go.Proofs.YthdenkkllpkplaaGreat.Mem Go.Proofs.YthdenkkllpkplaaGreat.Rd Go.Proofs.YthdenkkllpkplaaGreat.Word Go.Proofs.YthdenkkllpkplaaGreat.Shapes Go.Proofs.YthdenkkllpkplaaGreat.FFam
set_option linter.unusedVariables false
set_option linter.unusedSimpArgs false
set_option maxRecDepth 100000 in
set_option maxHeartbeats 8000000 in
theorem May_calls (w : World) (f : Fo) (v : Value) (h : RdF w.heap.size w v f) (hm : mayB f = true) :
    Calls Tryz.prog 177 #[v] w fun e w' => e = .returned (.bool true) ∧ Below w.heap.size w w' := by
  have hM := may_is hm
  have HR := Lib.hid (fun w' (hb : Below w.heap.size w w') => (h.below nodeE_keeps (w' := w') hb (Nat.le_refl _)).mono nodeE_keeps hb.size)
  obtain ⟨A0, c0, rfl, hl0, hc0, h'⟩ := h.form
  simp only [maxLen] at hc0
  have hlen := hM.len
  obtain ⟨b, o, _, _, _, _, rfl, _, _, _, _, _, g4, _⟩ := node_at h' (i := 0) (by omega)
  have hroot := hM.root
  rw [show at_ f 0 = f[0] from atN (i := 0) (by omega)] at hroot
  rw [hroot] at g4
  have hup : ∀ i : Nat, i < f.length → ∃ m, Up f m i ∧ m ≤ f.length := fun i hi => by
    obtain ⟨m, hu⟩ := hM.climb i hi
    exact ⟨m, hu, (depth_le hM (nodeI hi) hu).2⟩
  have hL1 : (1 : Int) ≤ (f.length : Int) := by omega
  have hL2 : (f.length : Int) ≤ 60 := by omega
  have HM := Lib.hid hM; have Hm := Lib.hid hm; have Hup := Lib.hid hup
  clear hM hm hup hroot h h'
  go_enter Tryz.func177, Tryz.ntmps177
  go_wp2_with fail
  clear g4
  go_loopw [3] (fun i wr => ∃ k : Nat, k ≤ f.length ∧ i = .int .i64 k ∧ Below w.heap.size w wr) (fun i _ => f.length - (intOf i).toNat)
  case atStart => exact ⟨0, Nat.zero_le _, rfl, Below.refl _ _⟩
  case round =>
    obtain ⟨k, hk, rfl, hb⟩ := hrel
    have Hb := Lib.hid hb
    by_cases hlt : k < f.length
    · obtain ⟨b2, o2, Aa, ca, Ak, ck, hA2, _, g0, g1, g2, g3, g4, g5, ra, rk, _, _, lk, lck, m1, _, _, _⟩ := node_at (HR.out _ hb) hlt
      injection hA2 with hA2
      injection hA2 with e1 e2 _
      subst e1 e2
      obtain ⟨hp, hkd⟩ := HM.out.node k hlt
      have hkl := Work.may_kids Hm.out f[k] (List.getElem_mem _)
      rw [atN hlt] at hp hkd
      have hal := alone_calls wr f[k] Aa Ak ca ck hp ra m1 (by omega)
      have hpl := fun w' (hb' : Below wr.heap.size wr w') => placed_calls w' f _ (HR.out _ (bthen hb hb')) Hm.out k hlt
      have hg0 := fun w' (hb' : Below wr.heap.size wr w') => cell_grow hb' g0
      have e3 : (f[k].kind == 0) = ((k : Int) == 0) := by
        rw [Bool.eq_iff_iff, beq_iff_eq, beq_iff_eq, hkd]; omega
      have hkI : (k : Int) < (f.length : Int) := by omega
      have Hal := Lib.hid hal; have Hpl := Lib.hid hpl; have Hg0 := Lib.hid hg0
      clear hal hpl hg0 ra rk hp hkd hkl m1 hb
      generalize f[k] = n at *
      obtain ⟨kd, nm, tx, ats, par, kks⟩ := n
      simp only at *
      go_wp2_with (first
        | (go_at_call 195; (with_reducible refine (Hal.out).mono ?_); rintro e w5 ⟨rfl, hb5⟩; have Hb5 := Lib.hid hb5; clear hb5)
        | (go_at_call 196; (with_reducible refine (Hpl.out _ Hb5.out).mono ?_); rintro e w6 ⟨rfl, hb6⟩; have y0 := Hg0.out w6 (bthen Hb5.out hb6); have Hb6 := Lib.hid (bthen Hb5.out hb6); clear hb6))
      go_roundw
      case rel => exact ⟨k + 1, by omega, by go_num, bthen Hb.out Hb6.out⟩
      case measure => simp [intOf]; omega
    · obtain rfl : k = f.length := by omega
      clear hlt hk hb
      go_wp2_with fail
      go_loop [4] (fun i => ∃ k : Nat, k ≤ f.length ∧ i = .int .i64 k) (fun i => f.length - (intOf i).toNat)
      case atStart => exact ⟨0, Nat.zero_le _, rfl⟩
      case round =>
        obtain ⟨k, hk, rfl⟩ := hrel
        by_cases hlt : k < f.length
        · obtain ⟨m0, hu0, hm0⟩ := Hup.out k hlt
          have Hu0 := Lib.hid hu0
          clear hu0
          go_upto_region 13 with fail
          go_wp2_with fail
          go_loop [5, 6] (fun a i => ∃ (q m : Nat) (j : Int), q + m ≤ f.length ∧ a = .int .i64 j ∧ i = .int .i64 q ∧ Hid (Up f m j) ∧ -1 ≤ j ∧ j < f.length) (fun _ i => f.length - (intOf i).toNat)
          case atStart => exact ⟨0, m0, (k : Int), by omega, rfl, rfl, Hu0, by omega, by omega⟩
          case round =>
            obtain ⟨q, m, j, hqm, rfl, rfl, hu, hj0, hj1⟩ := hrel
            by_cases hj : j = -1
            · subst hj
              by_cases hq : q < f.length
              · clear hu
                go_wp2_with fail
                go_round
                case rel => exact ⟨k + 1, by omega, by go_num⟩
                case measure => simp [intOf]; omega
              · obtain rfl : q = f.length := by omega
                clear hu hq
                go_wp2_with fail
                go_round
                case rel => exact ⟨k + 1, by omega, by go_num⟩
                case measure => simp [intOf]; omega
            · obtain ⟨x, rfl⟩ : ∃ x : Nat, j = x := ⟨j.toNat, by omega⟩
              have hx : x < f.length := by omega
              obtain ⟨g, rfl⟩ : ∃ g, m = g + 1 := by
                cases m with
                | zero => have : (x : Int) < 0 := hu.out; omega
                | succ g => exact ⟨g, rfl⟩
              have hq : q < f.length := by omega
              obtain ⟨b2, o2, _, _, _, _, hA2, _, _, _, _, _, n4, _⟩ := node_at (HR.out _ Hb.out) hx
              injection hA2 with hA2
              injection hA2 with e1 e2 _
              subst e1 e2
              rw [← atN hx] at n4
              have hp := HM.out.par x hx
              have hu2 : Up f g (at_ f (x : Int)).parent := hu.out.2
              have Hu2 := Lib.hid hu2
              have hp1 := hp.1
              have hp2 := hp.2.1
              clear hu hu2 hp hj
              generalize (at_ f (x : Int)).parent = pr at *
              go_wp2_with fail
              go_round
              case rel => exact ⟨q + 1, g, pr, by omega, rfl, by go_num, Hu2, hp1, hp2⟩
              case measure => simp [intOf]; omega
        · obtain rfl : k = f.length := by omega
          clear hlt
          go_wp2_with fail
          go_ret
          exact ⟨rfl, Hb.out⟩
theorem may_parents {f : Fo} (hm : mayB f = true) : ∀ i : Nat, i < f.length → -1 ≤ (at_ f (i : Int)).parent ∧ (at_ f (i : Int)).parent < f.length := fun i hi => ⟨((may_is hm).par i hi).1, ((may_is hm).par i hi).2.1⟩
set_option maxRecDepth 100000 in
set_option maxHeartbeats 4000000 in
theorem Below_calls (w : World) (f : Fo) (v : Value) (top id : Int) (h : RdF w.heap.size w v f) (hm : mayB f = true) :
    Calls Tryz.prog 134 #[v, .int .i64 top, .int .i64 id] w fun e w' => e = .returned (.bool (belowB f top id)) ∧ Below w.heap.size w w' := by
  have hmy := May_calls w f v h hm
  have HR := Lib.hid (fun w' (hb : Below w.heap.size w w') => (h.below nodeE_keeps (w' := w') hb (Nat.le_refl _)).mono nodeE_keeps hb.size)
  obtain ⟨A0, c0, rfl, hl0, hc0, _⟩ := h.form
  simp only [maxLen] at hc0
  have hlen := (may_len hm).2
  have Hmy := Lib.hid hmy
  clear hmy h
  by_cases hin : 0 ≤ id ∧ id < f.length
  case neg =>
    have hb : belowB f top id = false := by
      unfold belowB
      rw [show isNode f id = false by rw [Bool.eq_false_iff]; intro hh; exact hin ((node_iff _ _).1 hh)]
      simp
    have Hb := Lib.hid hb
    clear hb hm
    by_cases h0 : id < 0
    · clear hin
      go_enter Tryz.func134, Tryz.ntmps134
      go_wp2_with (go_at_call 177; with_reducible refine (Hmy.out).mono ?_; rintro e w5 ⟨rfl, hb5⟩; have Hb5 := Lib.hid hb5; clear hb5)
      go_ret
      exact ⟨ret_bool Hb.out.symm, Hb5.out⟩
    · have h1 : (f.length : Int) ≤ id := by omega
      clear hin
      go_enter Tryz.func134, Tryz.ntmps134
      go_wp2_with (go_at_call 177; with_reducible refine (Hmy.out).mono ?_; rintro e w5 ⟨rfl, hb5⟩; have Hb5 := Lib.hid hb5; clear hb5)
      go_ret
      exact ⟨ret_bool Hb.out.symm, Hb5.out⟩
  case pos =>
    obtain ⟨hi0, hi1⟩ := hin
    have hnode : isNode f id = true := (node_iff f id).2 ⟨hi0, hi1⟩
    have hq1 : ¬ id < 0 := by omega
    have hq2 : ¬ (f.length : Int) ≤ id := by omega
    by_cases ht : top < 0
    · have hb : belowB f top id = false := below_eq hm hnode ⟨fun h => by have := h.1; omega, fun h => by cases h⟩
      have Hb := Lib.hid hb
      clear hb hm hnode
      go_enter Tryz.func134, Tryz.ntmps134
      go_wp2_with (go_at_call 177; with_reducible refine (Hmy.out).mono ?_; rintro e w5 ⟨rfl, hb5⟩; have Hb5 := Lib.hid hb5; clear hb5)
      go_ret
      exact ⟨ret_bool Hb.out.symm, Hb5.out⟩
    obtain ⟨N, hN⟩ : ∃ N, Up f N id := by
      obtain ⟨n, hn⟩ := may_climbs hm id.toNat (by omega)
      exact ⟨n, by rwa [Int.toNat_of_nonneg hi0] at hn⟩
    have hpar := may_parents hm
    have HN := Lib.hid hN; have Hm := Lib.hid hm; have Hnode := Lib.hid hnode; have Hpar := Lib.hid hpar
    clear hN hm hnode hpar
    go_enter Tryz.func134, Tryz.ntmps134
    go_wp2_with (go_at_call 177; with_reducible refine (Hmy.out).mono ?_; rintro e w5 ⟨rfl, hb5⟩; have Hb5 := Lib.hid hb5; clear hb5)
    go_loopg [7] N (fun g i wx => ∃ j : Int, i = .int .i64 j ∧ Up f g j ∧ -1 ≤ j ∧ j < f.length ∧ (belowP f top id ↔ belowP f top j) ∧ wx = w5)
    case atStart => exact ⟨id, rfl, HN.out, by omega, hi1, Iff.rfl, rfl⟩
    case round =>
      obtain ⟨j, rfl, hup, hj0, hj1, hiff, rfl⟩ := hrel
      by_cases h1 : j = -1
      · subst h1
        have hres : belowB f top id = false := below_eq Hm.out Hnode.out (by rw [hiff]; exact ⟨fun h => absurd h (belowP_end (by omega)), fun h => by cases h⟩)
        have Hres := Lib.hid hres
        clear hup hiff hres
        go_wp2_with fail
        go_ret
        exact ⟨ret_bool Hres.out.symm, Hb5.out⟩
      · obtain ⟨x, rfl⟩ : ∃ x : Nat, j = x := ⟨j.toNat, by omega⟩
        have hx : x < f.length := by omega
        have hx0 : (0 : Int) ≤ (x : Int) := by omega
        by_cases htop : (x : Int) = top
        · have hres : belowB f top id = true := below_eq Hm.out Hnode.out (by rw [hiff]; exact ⟨fun _ => rfl, fun _ => ⟨by omega, 0, htop⟩⟩)
          have Hres := Lib.hid hres
          have hne : ((x : Int) == top) = true := by rw [beq_iff_eq]; exact htop
          clear hup hiff hres htop
          go_wp2_with fail
          go_ret
          exact ⟨ret_bool Hres.out.symm, Hb5.out⟩
        · have hne2 : ((x : Int) == top) = false := by rw [beq_eq_false_iff_ne]; exact htop
          obtain ⟨g, rfl⟩ : ∃ g, gk = g + 1 := by
            cases gk with
            | zero => have : (x : Int) < 0 := hup; omega
            | succ g => exact ⟨g, rfl⟩
          obtain ⟨b', o', _, _, _, _, rfl, _, _, _, _, _, n4, _⟩ := node_at (HR.out _ Hb5.out) hx
          rw [← atN hx] at n4
          have hst := belowP_step (f := f) (top := top) (j := x) (by omega) htop
          have hp := Hpar.out x hx
          have hup2 := hup.2
          rw [← hiff] at hst
          generalize (at_ f (x : Int)).parent = pr at *
          have Hst := Lib.hid hst; have Hup := Lib.hid hup2
          clear hup hiff hst hup2 htop
          go_wp2_with fail
          go_roundg g
          case measure => omega
          case rel => exact ⟨pr, rfl, Hup.out, hp.1, hp.2, Hst.out, rfl⟩
end Go.Proofs.YthdenkkllpkplaaGreat.R5
end
section
/- treillageref07: change. -/
namespace Go.Proofs.YthdenkkllpkplaaGreat.R7
open Go Go.RowKit Go.Proofs.YthdenkkllpkplaaGreat.Seq Go.Proofs.YthdenkkllpkplaaGreat.WS Go.Proofs.YthdenkkllpkplaaGreat.FS Go.Proofs.YthdenkkllpkplaaGreat.Mem Go.Proofs.YthdenkkllpkplaaGreat.Rd Go.Proofs.YthdenkkllpkplaaGreat.Shapes Go.Proofs.YthdenkkllpkplaaGreat.Word Go.Proofs.YthdenkkllpkplaaGreat.FFam Go.Proofs.YthdenkkllpkplaaGreat.OwnF
set_option linter.unusedVariables false
set_option linter.unusedSimpArgs false
/-- What the reference's operation leaves: the document's error, and forest. -/
def RefPost (f : Fo) (o : Opn) (w : World) (e : Ending) (w' : World) : Prop := ∃ v', e = .returned (.tuple #[v', .int .i64 (oneE f o)]) ∧ RdF w'.heap.size w' v' (oneF f o) ∧ Below w.heap.size w w'
theorem rop_cells {W : World} {b : Nat} {o : Opn} (h : W.heap[b]? = some (.cells (OpMay.opRow o) 40 (0, 0))) : W.cell? ⟨b, 0, none⟩ = some (.int .i64 o.kind) ∧ W.cell? ⟨b, 1, none⟩ = some (.int .i64 o.id) ∧ W.cell? ⟨b, 2, none⟩ = some (.int .i64 o.to) ∧ W.cell? ⟨b, 3, none⟩ = some (.int .i64 o.at_) ∧ W.cell? ⟨b, 4, none⟩ = some (.string o.name) ∧ W.cell? ⟨b, 5, none⟩ = some (.string o.text) ∧ (∀ j, W.frozen? ⟨b, j, none⟩ = false) :=
  ⟨(cell_of_row _ _ _ _ _ _ h).trans rfl, (cell_of_row _ _ _ _ _ _ h).trans rfl, (cell_of_row _ _ _ _ _ _ h).trans rfl, (cell_of_row _ _ _ _ _ _ h).trans rfl, (cell_of_row _ _ _ _ _ _ h).trans rfl, (cell_of_row _ _ _ _ _ _ h).trans rfl, free_of h⟩
theorem firstE_three (a b c : Int) (p q r : Bool) : firstE [(a, p), (b, q), (c, r)] = if p = true then (if q = true then (if r = true then 0 else c) else b) else a := by
  unfold firstE
  cases p <;> cases q <;> cases r <;> simp
theorem one_err {f : Fo} {o : Opn} (h : oneE f o ≠ 0) : oneF f o = f := by unfold oneF; rw [if_neg h]
theorem change_E {f : Fo} {o : Opn} (hmo : mayO o = true) (hk : o.kind = 8) : oneE f o = if isNode f o.id = true then (if ((at_ f o.id).kind == 2 || (at_ f o.id).kind == 3) = true then (if textB o.text.data.toList = true then 0 else 74) else 71) else 70 := by
  unfold oneE checks
  rw [if_pos hmo, if_neg (by omega), if_neg (by omega), if_neg (by omega), if_neg (by omega), if_neg (by omega), if_neg (by omega), firstE_three]
  rfl
theorem plain_kind' {n : Nd} (h : plainB n = true) : n.kind = 0 ∨ n.kind = 1 ∨ n.kind = 2 ∨ n.kind = 3 := by
  unfold plainB at h
  by_cases h0 : n.kind = 0
  · exact .inl h0
  by_cases h1 : n.kind = 1
  · exact .inr (.inl h1)
  rw [if_neg h0, if_neg h1] at h
  by_cases h2 : n.kind = 2 ∨ n.kind = 3
  · rcases h2 with h2 | h2
    · exact .inr (.inr (.inl h2))
    · exact .inr (.inr (.inr h2))
  · rw [if_neg h2] at h
    cases h
set_option maxRecDepth 100000 in
set_option maxHeartbeats 4000000 in
theorem change_calls (w : World) (f : Fo) (v : Value) (o : Opn) (h : RdF w.heap.size w v f) (hm : mayB f = true) (hmo : mayO o = true) (hk : o.kind = 8) (hta : ∀ n ∈ f, n.attrs.length ≤ 1000) (hsz : o.text.size ≤ maxLen) :
    Calls Tryz.prog 67 #[v, opV o] w (RefPost f o w) := by
  obtain ⟨W0, hW0⟩ : ∃ W0, w.alloc (.cells #[.int .i64 o.kind, .int .i64 o.id, .int .i64 o.to, .int .i64 o.at_, .string o.name, .string o.text] 40) = W0 := ⟨_, rfl⟩
  have hrow : W0.heap[w.heap.size]? = some (.cells (OpMay.opRow o) 40 (0, 0)) := by rw [← hW0]; exact World.alloc_heap_new w _
  have hb0 : Below w.heap.size w W0 := by rw [← hW0]; exact (Below.refl _ _).alloc (Nat.le_refl _) _
  have hbox := fun w' (hb : Below W0.heap.size W0 w') => rop_cells ((hb.block w.heap.size (lt_heap hrow)).trans hrow)
  have hrd := fun w' (hb : Below w.heap.size w w') => (h.below nodeE_keeps (w' := w') hb (Nat.le_refl _)).mono nodeE_keeps hb.size
  have hcp := fun w' (hb : Below w.heap.size w w') => copied_calls w' _ f (hrd w' hb) (by have := (may_len hm).2; omega) hta (fun n hn => by have := Work.may_kids hm n hn; omega)
  have hlen := may_len hm
  obtain ⟨A0, c0, rfl, hl0, hc0, h'⟩ := h.form
  simp only [maxLen] at hc0
  obtain ⟨z0, z1, z2, z3, z4, z5, zf⟩ := hbox W0 (Below.refl _ _)
  have hE := change_E (f := f) hmo hk
  have herr := fun (E : Int) (he : oneE f o = E) (h0 : E ≠ 0) => one_err (f := f) (o := o) (by rw [he]; exact h0)
  have hdo : oneE f o = 0 → oneF f o = f.set o.id.toNat { at_ f o.id with text := o.text } := fun e => by
    unfold oneF doF
    rw [if_pos e, if_neg (by omega), if_neg (by omega), if_neg (by omega), if_neg (by omega), if_neg (by omega)]
  have HW0 := Lib.hid hW0; have HB0 := Lib.hid hb0; have Hbox := Lib.hid hbox; have Hrd := Lib.hid hrd; have Hcp := Lib.hid hcp; have Hdo := Lib.hid hdo; have Herr := Lib.hid herr
  have hT := fun w => R2.Text_calls o.text w
  clear hW0 hb0 hbox hrd hcp hdo herr hrow h h' hk
  by_cases hn : isNode f o.id = true
  · rw [if_pos hn] at hE
    obtain ⟨n, hid, hnl⟩ := node_nat hn
    have hkn := plain_kind' ((may_is hm).node n hnl).1
    have hat : at_ f o.id = f[n] := by rw [hid]; exact atN hnl
    obtain ⟨b, q, _, _, _, _, hA, _, g0, _, _, _, _, _, _, _, _, _, _, _, _, _, _, _⟩ := node_at (Hrd.out W0 HB0.out) hnl
    subst hA
    rw [hat] at hE
    rw [hid] at z1
    have hnI : (n : Int) < (f.length : Int) := by omega
    have hn0 : (0 : Int) ≤ (n : Int) := by omega
    rw [atN hnl] at hkn
    have hgc := fun w' (hb : Below W0.heap.size W0 w') => (Hbox.out w' hb)
    by_cases h23 : f[n].kind = 2 ∨ f[n].kind = 3
    · have hb23 : (f[n].kind == 2 || f[n].kind == 3) = true := by simp [h23]
      have hk2 : ¬ f[n].kind < 2 := by omega
      rw [if_pos hb23] at hE
      cases htx : textB o.text.data.toList with
      | false =>
        rw [htx] at hE hT
        have hE' : oneE f o = 74 := by rw [hE]; rfl
        have hF := Herr.out 74 hE' (by decide)
        have HT := Lib.hid hT; have HE := Lib.hid hE'; have HF := Lib.hid hF
        clear hE hE' hF hT htx hb23 h23 hat hid hn hkn hm hmo
        generalize f[n].kind = kn at *
        go_enter Tryz.func67, Tryz.ntmps67
        go_upto_region 1 with fail
        rw [HW0.out]
        go_wp2_with (go_at_call 62; (with_reducible refine (HT.out _).mono ?_); rintro e w5 ⟨rfl, rfl⟩)
        go_ret2
        exact ⟨_, by rw [HE.out]; rfl, by rw [HF.out]; exact Hrd.out _ HB0.out, HB0.out⟩
      | true =>
        rw [htx] at hE hT
        have hE' : oneE f o = 0 := by rw [hE]; rfl
        have hF := Hdo.out hE'
        rw [hat, hid, Int.toNat_natCast] at hF
        have HT := Lib.hid hT; have HE := Lib.hid hE'; have HF := Lib.hid hF; have Hid' := Lib.hid hid
        clear hE hE' hF hT htx hb23 h23 hat hid hn hkn hm hmo
        generalize hkn' : f[n].kind = kn at g0 hk2
        clear hkn'
        go_enter Tryz.func67, Tryz.ntmps67
        go_upto_region 1 with fail
        rw [HW0.out]
        go_upto_region 8 with (first | (go_at_call 62; (with_reducible refine (HT.out _).mono ?_); rintro e w5 ⟨rfl, rfl⟩) | (go_at_call 132; (with_reducible refine (Hcp.out _ HB0.out).mono ?_); rintro e w6 ⟨u6, rfl, ho6, hb6⟩; have Ho6 := Lib.hid ho6; have Hb6 := Lib.hid hb6; clear ho6 hb6))
        obtain ⟨g, c6, rfl, hg1, hg2, hgf, hg3, hg4⟩ := Ho6.out.form (by omega)
        simp only [maxLen] at hg4
        obtain ⟨cs, va, vk, hcs, hcc, _, _⟩ := Ho6.out.ne_block hnl
        have k2 := hcc 2 (.string f[n].text) (by rw [hcs]; rfl)
        have kf := hgf (n * 6 + 2)
        clear z0 z1 z2 z3 z4 z5 zf hcs hcc
        obtain ⟨z0, z1, z2, z3, z4, z5, zf⟩ := Hbox.out w6 Hb6.out
        rw [Hid'.out] at z1
        have hst := Ho6.out.store (j := 2) (u := .string o.text) (n := { f[n] with text := o.text }) hnl (by decide) (fun cs hcs => by
          obtain ⟨va, vk, rfl, r1, r2, r3, r4, r5, r6⟩ := hcs
          exact ⟨va, vk, rfl, r1, r2, r3, hsz, r5, r6⟩)
        have Hst := Lib.hid hst
        clear hst hgf Ho6
        go_wp2_with fail
        go_ret2
        refine ⟨_, by rw [HE.out]; rfl, by rw [HF.out]; exact Hst.out.rd, (bthen HB0.out Hb6.out).setCell (show w.heap.size ≤ g by have := HB0.out.size; omega) _⟩
    · have hb23 : (f[n].kind == 2 || f[n].kind == 3) = false := by
        rw [Bool.or_eq_false_iff, beq_eq_false_iff_ne, beq_eq_false_iff_ne]; omega
      have hk2 : f[n].kind < 2 := by omega
      rw [if_neg (by rw [hb23]; decide)] at hE
      have hF := Herr.out 71 hE (by decide)
      have HE := Lib.hid hE; have HF := Lib.hid hF
      clear hE hF hT hb23 h23 hat hid hn hkn hm hmo
      generalize f[n].kind = kn at *
      go_enter Tryz.func67, Tryz.ntmps67
      go_upto_region 1 with fail
      rw [HW0.out]
      go_wp2_with fail
      go_ret2
      exact ⟨_, by rw [HE.out]; rfl, by rw [HF.out]; exact Hrd.out _ HB0.out, HB0.out⟩
  · rw [if_neg hn] at hE
    have hF := Herr.out 70 hE (by decide)
    have HE := Lib.hid hE; have HF := Lib.hid hF
    rw [node_iff] at hn
    clear hE hF hT hm hmo
    by_cases h0 : o.id < 0
    · clear hn
      go_enter Tryz.func67, Tryz.ntmps67
      go_upto_region 1 with fail
      rw [HW0.out]
      go_wp2_with fail
      go_ret2
      exact ⟨_, by rw [HE.out]; rfl, by rw [HF.out]; exact Hrd.out _ HB0.out, HB0.out⟩
    · have h1 : (f.length : Int) ≤ o.id := by omega
      clear hn
      go_enter Tryz.func67, Tryz.ntmps67
      go_upto_region 1 with fail
      rw [HW0.out]
      go_wp2_with fail
      go_ret2
      exact ⟨_, by rw [HE.out]; rfl, by rw [HF.out]; exact Hrd.out _ HB0.out, HB0.out⟩
end Go.Proofs.YthdenkkllpkplaaGreat.R7
end
section
/- treillageref07: fresh. -/
namespace Go.Proofs.YthdenkkllpkplaaGreat.R7
open Go Go.RowKit Go.Proofs.YthdenkkllpkplaaGreat.Seq Go.Proofs.YthdenkkllpkplaaGreat.WS Go.Proofs.YthdenkkllpkplaaGreat.FS Go.Proofs.YthdenkkllpkplaaGreat.Mem Go.Proofs.YthdenkkllpkplaaGreat.Rd Go.Proofs.YthdenkkllpkplaaGreat.Shapes Go.Proofs.YthdenkkllpkplaaGreat.Word Go.Proofs.YthdenkkllpkplaaGreat.FFam Go.Proofs.YthdenkkllpkplaaGreat.OwnF
set_option linter.unusedVariables false
set_option linter.unusedSimpArgs false
def frE (f : Fo) (good : Bool) : Int := if good then (if f.length = 60 then 2 else 0) else 74
def frF (f : Fo) (good : Bool) (kd : Int) (nm tx : ByteArray) : Fo := if frE f good = 0 then f ++ [{ kind := kd, name := nm, text := tx, parent := -1 }] else f
def FrPost (f : Fo) (good : Bool) (kd : Int) (nm tx : ByteArray) (w : World) (e : Ending) (w' : World) : Prop := ∃ v', e = .returned (.tuple #[v', .int .i64 (frE f good)]) ∧ RdF w'.heap.size w' v' (frF f good kd nm tx) ∧ Below w.heap.size w w'
abbrev frRow (kd : Int) (nm tx : ByteArray) (par : Int) : Array Value := #[.int .i64 kd, .string nm, .string tx, .slice none 0 0, .int .i64 par, .slice none 0 0]
theorem fr_cells {W : World} {g : Nat} {kd : Int} {nm tx : ByteArray} {par : Int} {T : TypeId} (h : W.heap[g]? = some (.cells (frRow kd nm tx par) T (0, 0))) : W.cell? ⟨g, 0, none⟩ = some (.int .i64 kd) ∧ W.cell? ⟨g, 1, none⟩ = some (.string nm) ∧ W.cell? ⟨g, 2, none⟩ = some (.string tx) ∧ W.cell? ⟨g, 3, none⟩ = some (.slice none 0 0) ∧ W.cell? ⟨g, 4, none⟩ = some (.int .i64 par) ∧ W.cell? ⟨g, 5, none⟩ = some (.slice none 0 0) :=
  ⟨(cell_of_row _ _ _ _ _ _ h).trans rfl, (cell_of_row _ _ _ _ _ _ h).trans rfl, (cell_of_row _ _ _ _ _ _ h).trans rfl, (cell_of_row _ _ _ _ _ _ h).trans rfl, (cell_of_row _ _ _ _ _ _ h).trans rfl, (cell_of_row _ _ _ _ _ _ h).trans rfl⟩
set_option maxRecDepth 100000 in
set_option maxHeartbeats 4000000 in
theorem fresh_calls (w : World) (f : Fo) (v : Value) (h : RdF w.heap.size w v f) (hl1 : 1 ≤ f.length) (hl2 : f.length ≤ 60) (hta : ∀ n ∈ f, n.attrs.length ≤ 1000) (htk : ∀ n ∈ f, n.kids.length ≤ 1000) (kd : Int) (nm tx : ByteArray) (par : Int) (good : Bool) (hkd : (Lit.int .i64 kd).wf = true) (hnm : nm.size ≤ maxLen) (htx : tx.size ≤ maxLen) :
    Calls Tryz.prog 60 #[v, .agg #[.int .i64 kd, .string nm, .string tx, .slice none 0 0, .int .i64 par, .slice none 0 0], .bool good] w (FrPost f good kd nm tx w) := by
  obtain ⟨W0, hW0⟩ : ∃ W0, w.alloc (.cells #[.int .i64 kd, .string nm, .string tx, .slice none 0 0, .int .i64 par, .slice none 0 0] 86) = W0 := ⟨_, rfl⟩
  have hrow : W0.heap[w.heap.size]? = some (.cells (frRow kd nm tx par) 86 (0, 0)) := by rw [← hW0]; exact World.alloc_heap_new w _
  have hb0 : Below w.heap.size w W0 := by rw [← hW0]; exact (Below.refl _ _).alloc (Nat.le_refl _) _
  have hs0 : W0.heap.size = w.heap.size + 1 := by rw [← hW0]; simp
  have hrd := fun w' (hb : Below w.heap.size w w') => (h.below nodeE_keeps (w' := w') hb (Nat.le_refl _)).mono nodeE_keeps hb.size
  have hcp := fun w' (hb : Below w.heap.size w w') => copied_calls w' _ f (hrd w' hb) (by omega) hta htk
  obtain ⟨A0, c0, rfl, hl0, hc0, h'⟩ := h.form
  simp only [maxLen] at hc0
  have HW0 := Lib.hid hW0; have HB0 := Lib.hid hb0; have Hrd := Lib.hid hrd; have Hcp := Lib.hid hcp; have Hrow := Lib.hid hrow; have Hs0 := Lib.hid hs0
  clear hW0 hb0 hrd hcp hrow h h' hta htk hs0
  cases good with
  | false =>
    go_enter Tryz.func60, Tryz.ntmps60
    go_upto_region 1 with fail
    rw [HW0.out]
    go_wp2_with fail
    go_ret2
    exact ⟨_, rfl, Hrd.out _ HB0.out, HB0.out⟩
  | true =>
    by_cases h60 : f.length = 60
    · have hE : frE f true = 2 := by unfold frE; simp [h60]
      have hF : frF f true kd nm tx = f := by unfold frF; rw [if_neg (by rw [hE]; decide)]
      have hb : ((f.length : Int) == 60) = true := by rw [beq_iff_eq, h60]; rfl
      have HE := Lib.hid hE; have HF := Lib.hid hF
      clear hE hF h60
      go_enter Tryz.func60, Tryz.ntmps60
      go_upto_region 1 with fail
      rw [HW0.out]
      go_wp2_with fail
      go_ret2
      exact ⟨_, by rw [HE.out]; rfl, by rw [HF.out]; exact Hrd.out _ HB0.out, HB0.out⟩
    · have hE : frE f true = 0 := by unfold frE; simp [h60]
      have hF : frF f true kd nm tx = f ++ [{ kind := kd, name := nm, text := tx, parent := -1 }] := by unfold frF; rw [if_pos hE]
      have hb : ((f.length : Int) == 60) = false := by rw [beq_eq_false_iff_ne]; omega
      obtain ⟨z0, z1, z2, z3, z4, z5⟩ := fr_cells Hrow.out
      have zf := free_of Hrow.out 4
      obtain ⟨i0, hi0, hz0, hz1, hz2⟩ := info_parts Its.info_rnode
      have HE := Lib.hid hE; have HF := Lib.hid hF
      clear hE hF h60
      go_enter Tryz.func60, Tryz.ntmps60
      go_upto_region 1 with fail
      rw [HW0.out]
      go_upto_region 6 with fail
      obtain ⟨W1, hW1⟩ : ∃ W1, W0.setCell ⟨w.heap.size, 4, none⟩ (.int .i64 (-1)) = W1 := ⟨_, rfl⟩
      have hrow1 : W1.heap[w.heap.size]? = some (.cells (frRow kd nm tx (-1)) 86 (0, 0)) := by rw [← hW1]; exact (Repl.setCell_row Hrow.out).trans rfl
      have hb1 : Below w.heap.size w W1 := by rw [← hW1]; exact HB0.out.setCell (Nat.le_refl _) _
      have hs1 : w.heap.size < W1.heap.size := lt_heap hrow1
      rw [hW1]
      have hbox := fun w' (hb : Below W1.heap.size W1 w') => fr_cells ((hb.block w.heap.size hs1).trans hrow1)
      have hcp1 : ∀ W, (W = W1 ∨ W = W1.drew) → Calls Tryz.prog 132 #[.slice A0 f.length c0] W fun e w' => ∃ g c, e = .returned (.slice (some ⟨g, 0, none⟩) f.length c) ∧ OwnF 86 W1.heap.size w' (.slice (some ⟨g, 0, none⟩) f.length c) f ∧ Below W1.heap.size W1 w' := by
        have key : ∀ W, W.heap.size = W1.heap.size → Below w.heap.size w W → (∀ w', Below W.heap.size W w' → Below W1.heap.size W1 w') → Calls Tryz.prog 132 #[.slice A0 f.length c0] W fun e w' => ∃ g c, e = .returned (.slice (some ⟨g, 0, none⟩) f.length c) ∧ OwnF 86 W1.heap.size w' (.slice (some ⟨g, 0, none⟩) f.length c) f ∧ Below W1.heap.size W1 w' := fun W hsz hbW hto => by
          refine (Hcp.out W hbW).mono ?_
          rintro e w' ⟨u, rfl, ho, hb⟩
          rw [hsz] at ho
          obtain ⟨g, c, rfl, _⟩ := ho.form (by omega)
          exact ⟨g, c, rfl, ho, hto w' hb⟩
        rintro W (rfl | rfl)
        · exact key _ rfl hb1 (fun _ x => x)
        · exact key W1.drew rfl hb1.drew (fun w' x => (Below.refl _ W1).drew.trans x)
      have hcp2 : ∀ W, (W = W1.alloc (.cells (frRow kd nm tx (-1)) 86) ∨ W = (W1.alloc (.cells (frRow kd nm tx (-1)) 86)).drew) → Calls Tryz.prog 132 #[.slice A0 f.length c0] W fun e w' => ∃ g c, e = .returned (.slice (some ⟨g, 0, none⟩) f.length c) ∧ OwnF 86 (W1.heap.size + 1) w' (.slice (some ⟨g, 0, none⟩) f.length c) f ∧ Below W1.heap.size W1 w' ∧ w'.heap[W1.heap.size]? = some (.cells (frRow kd nm tx (-1)) 86 (0, 0)) := by
        have hbA : Below W1.heap.size W1 (W1.alloc (.cells (frRow kd nm tx (-1)) 86)) := (Below.refl _ _).alloc (Nat.le_refl _) _
        have key : ∀ W, W.heap.size = W1.heap.size + 1 → Below w.heap.size w W → (∀ w', Below W.heap.size W w' → Below W1.heap.size W1 w') → W.heap[W1.heap.size]? = some (.cells (frRow kd nm tx (-1)) 86 (0, 0)) → Calls Tryz.prog 132 #[.slice A0 f.length c0] W fun e w' => ∃ g c, e = .returned (.slice (some ⟨g, 0, none⟩) f.length c) ∧ OwnF 86 (W1.heap.size + 1) w' (.slice (some ⟨g, 0, none⟩) f.length c) f ∧ Below W1.heap.size W1 w' ∧ w'.heap[W1.heap.size]? = some (.cells (frRow kd nm tx (-1)) 86 (0, 0)) := fun W hsz hbW hto hr => by
          refine (Hcp.out W hbW).mono ?_
          rintro e w' ⟨u, rfl, ho, hb⟩
          have hr2 := (hb.block W1.heap.size (by omega)).trans hr
          rw [hsz] at ho
          obtain ⟨g, c, rfl, _⟩ := ho.form (by omega)
          exact ⟨g, c, rfl, ho, hto w' hb, hr2⟩
        rintro W (rfl | rfl)
        · exact key _ (by simp) (bthen hb1 hbA) (fun w' x => hbA.trans (x.mono (by simp))) (World.alloc_heap_new _ _)
        · exact key _ (by simp [World.drew]) (bthen hb1 hbA).drew (fun w' x => hbA.drew.trans (x.mono (by simp [World.drew]))) (World.alloc_heap_new _ _)
      obtain ⟨x0, x1, x2, x3, x4, x5⟩ := hbox W1 (Below.refl _ _)
      obtain ⟨xa0, xa1, xa2, xa3, xa4, xa5⟩ := hbox (W1.alloc (.cells (frRow kd nm tx (-1)) 86)) ((Below.refl _ _).alloc (Nat.le_refl _) _)
      have Hbox := Lib.hid hbox; have Hcp1 := Lib.hid hcp1; have Hcp2 := Lib.hid hcp2; have HB1 := Lib.hid hb1; have Hs1 := Lib.hid hs1; have Hrow1 := Lib.hid hrow1
      clear hbox hcp1 hcp2 hb1 hW1 hrow1 z0 z1 z2 z3 z4 z5 zf Hcp
      go_region_held3 (fun w' => w'.cell? ⟨w.heap.size, 0, none⟩ = some (.int .i64 kd) ∧ w'.cell? ⟨w.heap.size, 1, none⟩ = some (.string nm) ∧ w'.cell? ⟨w.heap.size, 2, none⟩ = some (.string tx) ∧ w'.cell? ⟨w.heap.size, 3, none⟩ = some (.slice none 0 0) ∧ w'.cell? ⟨w.heap.size, 4, none⟩ = some (.int .i64 (-1)) ∧ w'.cell? ⟨w.heap.size, 5, none⟩ = some (.slice none 0 0))
        (first | exact ⟨x0, x1, x2, x3, x4, x5⟩ | exact ⟨xa0, xa1, xa2, xa3, xa4, xa5⟩ | exact y7 | exact y8 | exact y7a | go_keep)
        (first
          | (go_at_call 132; (first | (with_reducible refine (Hcp1.out _ (.inl rfl)).mono ?_) | (with_reducible refine (Hcp1.out _ (.inr rfl)).mono ?_)); rintro e w7 ⟨g7, c7, rfl, ho7, hb7⟩; have y7 := Hbox.out w7 hb7; have y7a := Hbox.out (w7.alloc (.cells (frRow kd nm tx (-1)) 86)) (hb7.alloc hb7.size _); have Ho7 := Lib.hid ho7; have Hb7 := Lib.hid hb7; clear ho7 hb7)
          | (go_at_call 132; (first | (with_reducible refine (Hcp2.out _ (.inl rfl)).mono ?_) | (with_reducible refine (Hcp2.out _ (.inr rfl)).mono ?_)); rintro e w7 ⟨g7, c7, rfl, ho7, hb7, hr7⟩; have y7 := Hbox.out w7 hb7; have Ho7 := Lib.hid ho7; have Hb7 := Lib.hid hb7; have Hr7 := Lib.hid hr7; clear ho7 hb7 hr7)
          | (refine step_append_lies _ rfl (.tmp 17) (.tmp 19) 36 rfl W1.heap.size 86 i0 _ 6 96 Tryz.underlying36 hi0 hz0 hz1 hz2 rfl (by decide) (.slice (some ⟨g7, 0, none⟩) f.length c7) f.length _ (by simp [Act.eval, Act.put]) (Ho7.out.choose_spec.1.alloc _) ⟨w7.heap.size, 0, none⟩ 1 1 [.int .i64 kd, .string nm, .string tx, .slice none 0 0, .int .i64 (-1), .slice none 0 0] (by simp [Act.eval, Act.put]) rfl (World.news_of_block (cs := #[.int .i64 kd, .string nm, .string tx, .slice none 0 0, .int .i64 (-1), .slice none 0 0]) (t := 86) (fr := (0, 0)) (heap_alloc_new w7 _)) (by simp [Value.oneCell']) (by omega) (by simp only [maxLen]; omega) (by omega) (by simp; have := Hb7.out.size; omega) (w7.heap.size + 1) (by simp) ?_; intro g8 cap8 w8 hown8 hgrow8 hat8 hlt8; have Hown8 := Lib.hid hown8; have e8 : w8.heap[w.heap.size]? = some (.cells (frRow kd nm tx (-1)) 86 (0, 0)) := (hgrow8.block w.heap.size (by have := Hb7.out.size; have := Hs1.out; simp; omega) (fun e => by injection e with e; have e2 : g7 = w.heap.size := e.symm; have := (Ho7.out.choose_spec.1.lt g7 rfl).1; have := Hs1.out; omega)).trans (heap_old ((Hb7.out.block w.heap.size Hs1.out).trans Hrow1.out)); have y8 := fr_cells e8; have Hgrow8 := Lib.hid hgrow8; have Hat8 := Lib.hid hat8; clear hown8 hgrow8 hat8 e8)
          | (refine step_append_lies _ rfl (.tmp 17) (.tmp 19) 36 rfl (W1.heap.size + 1) 86 i0 _ 6 96 Tryz.underlying36 hi0 hz0 hz1 hz2 rfl (by decide) (.slice (some ⟨g7, 0, none⟩) f.length c7) f.length _ (by simp [Act.eval, Act.put]) Ho7.out.choose_spec.1 ⟨W1.heap.size, 0, none⟩ 1 1 [.int .i64 kd, .string nm, .string tx, .slice none 0 0, .int .i64 (-1), .slice none 0 0] (by simp [Act.eval, Act.put]) rfl (World.news_of_block (cs := #[.int .i64 kd, .string nm, .string tx, .slice none 0 0, .int .i64 (-1), .slice none 0 0]) (t := 86) (fr := (0, 0)) Hr7.out) (by simp [Value.oneCell']) (by omega) (by simp only [maxLen]; omega) (by omega) (by have := lt_heap Hr7.out; omega) w7.heap.size rfl ?_; intro g8 cap8 w8 hown8 hgrow8 hat8 hlt8; have Hown8 := Lib.hid hown8; have e8 : w8.heap[w.heap.size]? = some (.cells (frRow kd nm tx (-1)) 86 (0, 0)) := (hgrow8.block w.heap.size (by have := Hb7.out.size; have := Hs1.out; simp; omega) (fun e => by injection e with e; have e2 : g7 = w.heap.size := e.symm; have := (Ho7.out.choose_spec.1.lt g7 rfl).1; have := Hs1.out; omega)).trans ((Hb7.out.block w.heap.size Hs1.out).trans Hrow1.out); have y8 := fr_cells e8; have Hgrow8 := Lib.hid hgrow8; have Hat8 := Lib.hid hat8; clear hown8 hgrow8 hat8 e8)
          | (fail "no arm"))
      · have how7 := Ho7.out.choose_spec.1
        have hnd := Ho7.out.choose_spec.2
        have hO := OwnF.more (v' := .slice (some ⟨g8, 0, none⟩) (f.length + 1) cap8) (news := [.int .i64 kd, .string nm, .string tx, .slice none 0 0, .int .i64 (-1), .slice none 0 0]) (w := w7.alloc (.cells (frRow kd nm tx (-1)) 86)) (f := f) (g := [{ kind := kd, name := nm, text := tx, parent := -1 }]) (how7.alloc _) (fun i hi => (hnd i hi).keep (fun b _ hb => Below.heap_alloc _ _ _ hb) (by simp) (fun _ x _ => x)) rfl (fun i hi => by
            obtain rfl : i = 0 := by simp at hi; omega
            exact ⟨_, _, rfl, RdS.nil, RdS.nil, hnm, htx, hkd, rfl⟩) Hown8.out Hgrow8.out (by
              rcases Hat8.out with e | e
              · exact .inl e.symm
              · exact .inr (by rw [e]; simp [Value.ownBlock]))
        have hB := bthen HB1.out (FTops.grown_below (Hb7.out.alloc Hb7.out.size _) Hgrow8.out (how7.alloc _) (Nat.le_refl _))
        clear hnd how7
        have HO := Lib.hid hO; have HB := Lib.hid hB
        clear hO hB
        go_wp2_with fail
        go_ret2
        exact ⟨_, by rw [HE.out]; rfl, by rw [HF.out]; exact HO.out.rd, HB.out⟩
      · have how7 := Ho7.out.choose_spec.1
        have hnd := Ho7.out.choose_spec.2
        have hO := OwnF.more (v' := .slice (some ⟨g8, 0, none⟩) (f.length + 1) cap8) (news := [.int .i64 kd, .string nm, .string tx, .slice none 0 0, .int .i64 (-1), .slice none 0 0]) (w := w7) (f := f) (g := [{ kind := kd, name := nm, text := tx, parent := -1 }]) how7 (fun i hi => hnd i hi) rfl (fun i hi => by
            obtain rfl : i = 0 := by simp at hi; omega
            exact ⟨_, _, rfl, RdS.nil, RdS.nil, hnm, htx, hkd, rfl⟩) Hown8.out Hgrow8.out (by
              rcases Hat8.out with e | e
              · exact .inl e.symm
              · exact .inr (by rw [e]; simp [Value.ownBlock]))
        have hB := bthen HB1.out (FTops.grown_below Hb7.out Hgrow8.out how7 (Nat.le_succ _))
        clear hnd how7
        have HO := Lib.hid hO; have HB := Lib.hid hB
        clear hO hB
        go_wp2_with fail
        go_ret2
        exact ⟨_, by rw [HE.out]; rfl, by rw [HF.out]; exact HO.out.rd, HB.out⟩
end Go.Proofs.YthdenkkllpkplaaGreat.R7
end
