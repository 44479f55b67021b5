/- Joined by a program: R7R, R7U, R7Q. -/
import Derived.Deep.Onto
import Derived.Test.YthdenkkllpkplaaGreatC19
import Derived.Test.YthdenkkllpkplaaGreatC17
section
/- treillageref07: remove. -/
namespace Go.Proofs.YthdenkkllpkplaaGreat.R7
open Go Go.RowKit Go.Proofs.YthdenkkllpkplaaGreat.Seq Go.Proofs.YthdenkkllpkplaaGreat.WS Go.Proofs.YthdenkkllpkplaaGreat.FS Go.Proofs.YthdenkkllpkplaaGreat.Mem Go.Proofs.YthdenkkllpkplaaGreat.Rd Go.Proofs.YthdenkkllpkplaaGreat.Shapes Go.Proofs.YthdenkkllpkplaaGreat.Word Go.Proofs.YthdenkkllpkplaaGreat.FFam Go.Proofs.YthdenkkllpkplaaGreat.OwnF
set_option linter.unusedVariables false
set_option linter.unusedSimpArgs false
theorem remove_E {f : Fo} {o : Opn} (hmo : mayO o = true) (hk : o.kind = 5) : oneE f o = if isNode f o.id = true then (if (o.id != 0) = true then (if ((at_ f o.id).parent != -1) = true then 0 else 3) else 71) else 70 := by
  unfold oneE checks
  rw [if_pos hmo, if_neg (by omega), if_neg (by omega), if_neg (by omega), if_pos hk, firstE_three]
  rfl
set_option maxRecDepth 100000 in
set_option maxHeartbeats 4000000 in
theorem remove_calls (w : World) (f : Fo) (v : Value) (o : Opn) (h : RdF w.heap.size w v f) (hm : mayB f = true) (hmo : mayO o = true) (hk : o.kind = 5) (hta : ∀ n ∈ f, n.attrs.length ≤ 1000) :
    Calls Tryz.prog 64 #[v, opV o] w (RefPost f o w) := by
  obtain ⟨W0, hW0⟩ : ∃ W0, w.alloc (.cells #[.int .i64 o.kind, .int .i64 o.id, .int .i64 o.to, .int .i64 o.at_, .string o.name, .string o.text] 40) = W0 := ⟨_, rfl⟩
  have hrow : W0.heap[w.heap.size]? = some (.cells (OpMay.opRow o) 40 (0, 0)) := by rw [← hW0]; exact World.alloc_heap_new w _
  have hb0 : Below w.heap.size w W0 := by rw [← hW0]; exact (Below.refl _ _).alloc (Nat.le_refl _) _
  have hbox := fun w' (hb : Below W0.heap.size W0 w') => rop_cells ((hb.block w.heap.size (lt_heap hrow)).trans hrow)
  have hrd := fun w' (hb : Below w.heap.size w w') => (h.below nodeE_keeps (w' := w') hb (Nat.le_refl _)).mono nodeE_keeps hb.size
  have hcp := fun w' (hb : Below w.heap.size w w') => copied_calls w' _ f (hrd w' hb) (by have := (may_len hm).2; omega) hta (fun n hn => by have := Work.may_kids hm n hn; omega)
  have hlen := may_len hm
  obtain ⟨A0, c0, rfl, hl0, hc0, h'⟩ := h.form
  simp only [maxLen] at hc0
  obtain ⟨z0, z1, z2, z3, z4, z5, zf⟩ := hbox W0 (Below.refl _ _)
  have hE := remove_E (f := f) hmo hk
  have herr := fun (E : Int) (he : oneE f o = E) (h0 : E ≠ 0) => one_err (f := f) (o := o) (by rw [he]; exact h0)
  have hdo : oneE f o = 0 → oneF f o = takeF f o.id := fun e => by
    unfold oneF doF
    rw [if_pos e, if_neg (by omega), if_neg (by omega), if_pos hk]
  have hs0 : W0.heap.size = w.heap.size + 1 := by rw [← hW0]; simp
  have Hs0 := Lib.hid hs0
  clear hs0
  have HW0 := Lib.hid hW0; have HB0 := Lib.hid hb0; have Hbox := Lib.hid hbox; have Hrd := Lib.hid hrd; have Hcp := Lib.hid hcp; have Hdo := Lib.hid hdo; have Herr := Lib.hid herr
  clear hW0 hb0 hbox hrd hcp hdo herr hrow h h' hk
  by_cases hn : isNode f o.id = true
  · rw [if_pos hn] at hE
    obtain ⟨n, hid, hnl⟩ := node_nat hn
    have hpar := (may_is hm).par n hnl
    have hroot := (may_is hm).root
    obtain ⟨b, q, _, _, _, _, hA, _, _, _, _, _, g4, _⟩ := node_at (Hrd.out W0 HB0.out) hnl
    subst hA
    rw [← atN hnl] at g4
    rw [hid] at hE
    have hnI : (n : Int) < (f.length : Int) := by omega
    have hn0 : (0 : Int) ≤ (n : Int) := by omega
    have Hid' := Lib.hid hid
    rw [hid] at z1
    by_cases h0 : n = 0
    · subst h0
      replace z1 : W0.cell? ⟨w.heap.size, 1, none⟩ = some (.int .i64 0) := z1
      have hfn : ¬ f = [] := by intro e; rw [e] at hnl; simp at hnl
      rw [if_neg (by decide)] at hE
      have hF := Herr.out 71 hE (by decide)
      have HE := Lib.hid hE; have HF := Lib.hid hF
      clear hE hF hid hn hm hmo hpar hroot
      go_enter Tryz.func64, Tryz.ntmps64
      go_upto_region 1 with fail
      rw [HW0.out]
      go_wp2_with fail
      go_ret2
      exact ⟨_, by rw [HE.out]; rfl, by rw [HF.out]; exact Hrd.out _ HB0.out, HB0.out⟩
    · have hn1 : ((n : Int) != 0) = true := by rw [bne_iff_ne]; omega
      have hn2 : ((n : Int) == 0) = false := by rw [beq_eq_false_iff_ne]; omega
      rw [if_pos hn1] at hE
      by_cases hp : (at_ f (n : Int)).parent < 0
      · have hp1 : (at_ f (n : Int)).parent = -1 := by have := hpar.1; omega
        rw [if_neg (by rw [hp1]; decide)] at hE
        have hF := Herr.out 3 hE (by decide)
        have HE := Lib.hid hE; have HF := Lib.hid hF
        rw [hp1] at g4
        clear hE hF hid hn hm hmo hpar hroot hp hp1 hn1
        go_enter Tryz.func64, Tryz.ntmps64
        go_upto_region 1 with fail
        rw [HW0.out]
        go_wp2_with fail
        go_ret2
        exact ⟨_, by rw [HE.out]; rfl, by rw [HF.out]; exact Hrd.out _ HB0.out, HB0.out⟩
      · obtain ⟨p, hpe⟩ : ∃ p : Nat, (at_ f (n : Int)).parent = p := ⟨(at_ f (n : Int)).parent.toNat, by omega⟩
        have hpl : p < f.length := by have := hpar.2.1; omega
        rw [if_pos (by rw [hpe, bne_iff_ne]; omega)] at hE
        have hF := Hdo.out hE
        rw [hid, Work.take_kid hpe] at hF
        rw [hpe] at g4
        have hpI : (p : Int) < (f.length : Int) := by omega
        have hp0 : (0 : Int) ≤ (p : Int) := by omega
        have hkl := Work.may_kids hm f[p] (List.getElem_mem _)
        have HE := Lib.hid hE; have HF := Lib.hid hF; have Hpe := Lib.hid hpe
        clear hE hF hid hn hm hmo hpar hroot hp hn1 hpe
        go_enter Tryz.func64, Tryz.ntmps64
        go_upto_region 1 with fail
        rw [HW0.out]
        go_upto_region 8 with (go_at_call 132; (with_reducible refine (Hcp.out _ HB0.out).mono ?_); rintro e w6 ⟨u6, rfl, ho6, hb6⟩; have Ho6 := Lib.hid ho6; have Hb6 := Lib.hid hb6; clear ho6 hb6)
        obtain ⟨g, c6, rfl, hg1, hg2, hgf, hg3, hg4⟩ := Ho6.out.form (by omega)
        simp only [maxLen] at hg4
        obtain ⟨cs, va, vk, hcs, hcc, _, _⟩ := Ho6.out.ne_block hnl
        have k4 := hcc 4 (.int .i64 f[n].parent) (by rw [hcs]; rfl)
        rw [← atN hnl, Hpe.out] at k4
        clear hcs hcc
        obtain ⟨cs, va, vk, hcs, hcc, _, rk⟩ := Ho6.out.ne_block hpl
        have k5 := hcc 5 vk (by rw [hcs]; rfl)
        obtain ⟨Ak, ck, rfl, hck1, hck2⟩ := rk.form
        simp only [maxLen] at hck2
        clear z0 z1 z2 z3 z4 z5 zf hcs hcc g4
        obtain ⟨z0, z1, z2, z3, z4, z5, zf⟩ := Hbox.out w6 Hb6.out
        rw [Hid'.out] at z1
        have kf5 := hgf (p * 6 + 5)
        have hwo := fun w' (hb' : Below w6.heap.size w6 w') => without_calls w' _ f[p].kids (n : Int) ((RdL.below (intE_keeps _) (w' := w') rk.rd hb' (Nat.le_refl _)).mono (intE_keeps _) hb'.size) (by omega)
        have Hwo := Lib.hid hwo; have Rk := Lib.hid rk; have Hgf := Lib.hid hgf
        clear hwo rk hgf
        go_upto_region 9 with fail
        have hkeep := fun w' (hb' : Below w6.heap.size w6 w') => (⟨(Hbox.out w' (bthen Hb6.out hb')).2.1, cell_grow hb' k5⟩ : w'.cell? ⟨w.heap.size, 1, none⟩ = some (.int .i64 o.id) ∧ w'.cell? ⟨g, p * 6 + 5, none⟩ = some (.slice Ak f[p].kids.length ck))
        rw [Hid'.out] at hkeep
        have hkf := fun w' (hb' : Below w6.heap.size w6 w') => ((Ho6.out.below hb').form (by omega) : _)
        have Hkeep := Lib.hid hkeep
        clear hkeep hkf
        have hff : ∀ w', Below w6.heap.size w6 w' → w'.frozen? ⟨g, p * 6 + 5, none⟩ = false := fun w' hb' => by
          obtain ⟨g2, c2, e2, _, _, hf2, _⟩ := (Ho6.out.below hb').form (by omega)
          injection e2 with e2
          injection e2 with e2
          injection e2 with e2
          subst e2
          exact hf2 _
        have Hff := Lib.hid hff
        clear hff
        have k5d := (Hkeep.out w6.drew (Below.refl _ _).drew).2
        have kf5d := Hff.out w6.drew (Below.refl _ _).drew
        have hbg : w.heap.size ≠ g := by have := HB0.out.size; have := Hs0.out; omega
        have z1d := (Hkeep.out w6.drew (Below.refl _ _).drew).1
        refine wp_region_held_drew (S := (fun w' => w'.cell? ⟨w.heap.size, 1, none⟩ = some (.int .i64 (n : Int)))) (by kernel_rfl) z1 (fun hHeld => ?_)
        refine' wpAnyH_take (i := 0) (v := ?v0) rfl (by kernel_rfl) (by kernel_rfl) (by kernel_rfl) (fun _ _ _ h => h) (Or.inl ⟨by rfl, ?hy0⟩) (by assumption) ?rest0
        case hy0 => (intro w hSw; (try dsimp only at hSw); go_simp; (try with_reducible rfl))
        (try simp only [Act.put, List.setIfInBounds_toArray, List.set_cons_zero, List.set_cons_succ])
        refine' wpAnyH_take (i := 1) (v := ?v1) rfl (by kernel_rfl) (by kernel_rfl) (by kernel_rfl) (fun _ _ _ h => h) (Or.inl ⟨by rfl, ?hy1⟩) (by assumption) ?rest1
        case hy1 => (intro w hSw; (try dsimp only at hSw); go_simp; (try with_reducible rfl))
        (try simp only [Act.put, List.setIfInBounds_toArray, List.set_cons_zero, List.set_cons_succ])
        refine' wpAnyH_take (i := 2) (v := ?v2) rfl (by kernel_rfl) (by kernel_rfl) (by kernel_rfl) (fun _ _ _ h => h) (Or.inl ⟨by rfl, ?hy2⟩) (by assumption) ?rest2
        case hy2 => (intro w hSw; (try dsimp only at hSw); go_simp; (try with_reducible rfl))
        (try simp only [Act.put, List.setIfInBounds_toArray, List.set_cons_zero, List.set_cons_succ])
        refine' wpAnyH_take (i := 3) (v := ?v3) rfl (by kernel_rfl) (by kernel_rfl) (by kernel_rfl) (fun _ _ _ h => h) (Or.inl ⟨by rfl, ?hy3⟩) (by assumption) ?rest3
        case hy3 => (intro w hSw; (try dsimp only at hSw); go_simp; (try with_reducible rfl))
        (try simp only [Act.put, List.setIfInBounds_toArray, List.set_cons_zero, List.set_cons_succ])
        refine' wpAnyH_take (i := 4) (v := ?v4) rfl (by kernel_rfl) (by kernel_rfl) (by kernel_rfl) (fun _ _ _ h => h) (Or.inl ⟨by rfl, ?hy4⟩) (by assumption) ?rest4
        case hy4 => (intro w hSw; (try dsimp only at hSw); go_simp; (try with_reducible rfl))
        (try simp only [Act.put, List.setIfInBounds_toArray, List.set_cons_zero, List.set_cons_succ])
        refine' wpAnyH_take (i := 5) (v := ?v5) rfl (by kernel_rfl) (by kernel_rfl) (by kernel_rfl) (fun _ _ _ h => h) (Or.inl ⟨by rfl, ?hy5⟩) (by assumption) ?rest5
        case hy5 => (intro w hSw; (try dsimp only at hSw); go_simp; (try with_reducible rfl))
        (try simp only [Act.put, List.setIfInBounds_toArray, List.set_cons_zero, List.set_cons_succ])
        refine' wpAnyH_take (i := 7) (v := ?v7) rfl (by kernel_rfl) (by kernel_rfl) (by kernel_rfl) (fun _ _ _ h => h) (Or.inl ⟨by rfl, ?hy7⟩) (by assumption) ?rest7
        case hy7 => (intro w hSw; (try dsimp only at hSw); go_simp; (try with_reducible rfl))
        (try simp only [Act.put, List.setIfInBounds_toArray, List.set_cons_zero, List.set_cons_succ])
        refine' wpAnyH_take (i := 8) (v := ?v8) rfl (by kernel_rfl) (by kernel_rfl) (by kernel_rfl) (fun _ _ _ h => h) (Or.inl ⟨by rfl, ?hy8⟩) (by assumption) ?rest8
        case hy8 => (intro w hSw; (try dsimp only at hSw); go_simp; (try with_reducible rfl))
        (try simp only [Act.put, List.setIfInBounds_toArray, List.set_cons_zero, List.set_cons_succ])
        refine wpAnyH_ready (rs := [6]) (by kernel_rfl) (by simp) ?_
        refine AllReadyH.cons rfl (fun K hK => ?_) AllReadyH.nil
        go_simp
        refine hK.out _ _ hHeld (fun hHeld => ?_)
        clear hK K
        (try simp only [Act.put, List.setIfInBounds_toArray, List.set_cons_zero, List.set_cons_succ])
        refine wpAnyH_ready (rs := [9]) (by kernel_rfl) (by simp) ?_
        refine AllReadyH.cons rfl (fun K hK => ?_) AllReadyH.nil
        go_simp
        go_at_call 135
        refine (Hwo.out _ (Below.refl _ _).drew).mono ?_
        rintro e w7 ⟨u7, rfl, ho7, hb7⟩
        obtain ⟨A7, n7, c7, rfl⟩ := Build.own_form ho7
        have hb7' := (Below.refl _ w6).drew.trans hb7
        have y7 := Hkeep.out w7 hb7'
        have yf7 := Hff.out w7 hb7'
        have y75 := y7.2
        have Ho7 := Lib.hid ho7; have Hb7 := Lib.hid hb7'
        clear ho7 hb7 hb7'
        go_simp
        refine hK.out _ _ y7.1 (fun hHeld => ?_)
        clear hK K
        (try simp only [Act.put, List.setIfInBounds_toArray, List.set_cons_zero, List.set_cons_succ])
        refine' wpAnyH_take (i := 10) (v := ?v10) rfl (by kernel_rfl) (by kernel_rfl) (by kernel_rfl) (fun _ _ _ h => h) (Or.inl ⟨by rfl, ?hy10⟩) (by assumption) ?rest10
        case hy10 => (intro w hSw; (try dsimp only at hSw); go_simp; (try with_reducible rfl))
        (try simp only [Act.put, List.setIfInBounds_toArray, List.set_cons_zero, List.set_cons_succ])
        refine' wpAnyH_take (i := 11) (v := ?v11) rfl (by kernel_rfl) (by kernel_rfl) (by kernel_rfl) (fun _ _ _ h => h) (Or.inl ⟨by rfl, ?hy11⟩) (by assumption) ?rest11
        case hy11 => (intro w hSw; (try dsimp only at hSw); go_simp; (try with_reducible rfl))
        (try simp only [Act.put, List.setIfInBounds_toArray, List.set_cons_zero, List.set_cons_succ])
        refine wpAnyH_ready (rs := [12]) (by kernel_rfl) (by simp) ?_
        refine AllReadyH.cons rfl (fun K hK => ?_) AllReadyH.nil
        go_simp
        refine hK.out _ _ ((OwnF.cell_same (Below.heap_setCell _ _ _ _ hbg) _).trans y7.1) (fun hHeld => ?_)
        clear hK K
        (try simp only [Act.put, List.setIfInBounds_toArray, List.set_cons_zero, List.set_cons_succ])
        refine wpAnyH_done (by kernel_rfl) ?_ _
        have hF := HF.out
        rw [atN hpl] at hF
        have hO7 := Ho6.out.below Hb7.out
        have hwf := kids_wf' Rk.out.rd
        have hr7 : RdS intS 1 (fun b => b ≠ g) w7 (.slice A7 n7 c7) (f[p].kids.filter (· != (n : Int))) := RdS.of_own Ho7.out rfl (fun g' hg' => by have h1 := (Ho7.out.lt g' hg').1; have h2 : w6.heap.size ≤ g' := h1; show g' ≠ g; omega) (fun i hi => ⟨by rw [Nat.mul_one, List.drop_eq_getElem_cons (by simpa using hi)]; simp, hwf _ (List.mem_filter.1 (List.getElem_mem hi)).1⟩)
        have hst5 := hO7.store (j := 5) (u := .slice A7 n7 c7) (n := { f[p] with kids := f[p].kids.filter (· != (n : Int)) }) hpl (by decide) (fun cs hcs => by
          obtain ⟨va, vk, rfl, r1, r2, r3, r4, r5, r6⟩ := hcs
          exact ⟨va, _, rfl, r1, hr7, r3, r4, r5, r6⟩)
        obtain ⟨W8, hW8⟩ : ∃ W8, w7.setCell ⟨g, p * 6 + 5, none⟩ (.slice A7 n7 c7) = W8 := ⟨_, rfl⟩
        have hHeld2 := hHeld
        rw [hW8] at hst5 hHeld2 ⊢
        have hb8 : Below w.heap.size w W8 := by rw [← hW8]; exact (bthen HB0.out (bthen Hb6.out Hb7.out)).setCell (show w.heap.size ≤ g by have := Hs0.out; omega) _
        obtain ⟨F1, hF1⟩ : ∃ F1, F1 = f.set p { f[p] with kids := f[p].kids.filter (· != (n : Int)) } := ⟨_, rfl⟩
        have hl1 : F1.length = f.length := by rw [hF1, List.length_set]
        rw [← hF1] at hst5 hF
        rw [show f.length = F1.length from hl1.symm] at hst5
        have hn1 : n < F1.length := by omega
        rw [atN hn1] at hF
        obtain ⟨cs, va, vk, hcs, hcc, _, _⟩ := hst5.ne_block hn1
        have k8 := hcc 4 (.int .i64 F1[n].parent) (by rw [hcs]; rfl)
        obtain ⟨g2, c2, e2, _, _, hf2, _⟩ := hst5.form (by omega)
        injection e2 with e2 _ e3
        injection e2 with e2
        injection e2 with e2
        subst e2 e3
        have kf8 := hf2 (n * 6 + 4)
        have hst4 := hst5.store (j := 4) (u := .int .i64 (-1)) (n := { F1[n] with parent := -1 }) hn1 (by decide) (fun cs hcs => by
          obtain ⟨va, vk, rfl, r1, r2, r3, r4, r5, r6⟩ := hcs
          exact ⟨va, vk, rfl, r1, r2, r3, r4, r5, rfl⟩)
        have Hst4 := Lib.hid hst4; have HF2 := Lib.hid hF; have Hb8 := Lib.hid hb8; have Hl1 := Lib.hid hl1
        have hgw : w.heap.size ≤ g := by have := Hs0.out; omega
        clear hst4 hst5 hF hb8 hW8 hF1 hcs hcc hf2 hO7 hr7 hwf hHeld k4 k5 k5d kf5 kf5d y7 yf7 y75 hl1 z0 z1 z2 z3 z4 z5 zf z1d
        go_wp2_with fail
        go_ret2
        exact ⟨_, by rw [HE.out]; rfl, by rw [HF2.out]; have hx := Hst4.out.rd; rw [Hl1.out] at hx; exact hx, Hb8.out.setCell hgw _⟩
  · rw [if_neg hn] at hE
    have hF := Herr.out 70 hE (by decide)
    have HE := Lib.hid hE; have HF := Lib.hid hF
    rw [node_iff] at hn
    clear hE hF hm hmo
    by_cases h0 : o.id < 0
    · clear hn
      go_enter Tryz.func64, Tryz.ntmps64
      go_upto_region 1 with fail
      rw [HW0.out]
      go_wp2_with fail
      go_ret2
      exact ⟨_, by rw [HE.out]; rfl, by rw [HF.out]; exact Hrd.out _ HB0.out, HB0.out⟩
    · have h1 : (f.length : Int) ≤ o.id := by omega
      clear hn
      go_enter Tryz.func64, Tryz.ntmps64
      go_upto_region 1 with fail
      rw [HW0.out]
      go_wp2_with fail
      go_ret2
      exact ⟨_, by rw [HE.out]; rfl, by rw [HF.out]; exact Hrd.out _ HB0.out, HB0.out⟩
end Go.Proofs.YthdenkkllpkplaaGreat.R7
end
section
/- treillageref07: unset. -/
namespace Go.Proofs.YthdenkkllpkplaaGreat.R7
open Go Go.RowKit Go.Proofs.YthdenkkllpkplaaGreat.Seq Go.Proofs.YthdenkkllpkplaaGreat.WS Go.Proofs.YthdenkkllpkplaaGreat.FS Go.Proofs.YthdenkkllpkplaaGreat.Mem Go.Proofs.YthdenkkllpkplaaGreat.Rd Go.Proofs.YthdenkkllpkplaaGreat.Shapes Go.Proofs.YthdenkkllpkplaaGreat.Word Go.Proofs.YthdenkkllpkplaaGreat.FFam Go.Proofs.YthdenkkllpkplaaGreat.OwnF
set_option linter.unusedVariables false
set_option linter.unusedSimpArgs false
theorem unset_E {f : Fo} {o : Opn} (hmo : mayO o = true) (hk : o.kind = 7) : oneE f o = if isNode f o.id = true then (if ((at_ f o.id).kind == 1) = true then (if (findA (at_ f o.id).attrs o.name).isSome = true then 0 else 75) else 71) else 70 := by
  unfold oneE checks
  rw [if_pos hmo, if_neg (by omega), if_neg (by omega), if_neg (by omega), if_neg (by omega), if_neg (by omega), if_pos hk, firstE_three]
  rfl
def offA (l : List Av) (s : ByteArray) : List Av := l.filter (fun a => !decide (a.name = s))
theorem offA_none {l : List Av} {s : ByteArray} (h : findA l s = none) : offA l s = l := by
  unfold offA
  rw [List.filter_eq_self]
  intro a ha
  simp [findA_none h a ha]
theorem offA_some {l : List Av} {s : ByteArray} {i : Nat} (hn : (l.map (·.name.data.toList)).Nodup) (h : findA l s = some i) : offA l s = delA l s ∧ (offA l s).length + 1 = l.length := by
  obtain ⟨hi, he⟩ := findA_some h
  have hs : l = l.take i ++ l[i] :: l.drop (i + 1) := by rw [← List.drop_eq_getElem_cons hi, List.take_append_drop]
  have h1 : offA (l.take i) s = l.take i := by
    unfold offA
    rw [List.filter_eq_self]
    intro a ha
    obtain ⟨j, hj, rfl⟩ := List.mem_iff_getElem.1 ha
    rw [List.length_take] at hj
    rw [List.getElem_take]
    have := names_ne hn (i := j) (j := i) (by omega) hi (by omega)
    rw [he] at this
    simp [this]
  have h2 : offA (l.drop (i + 1)) s = l.drop (i + 1) := by
    unfold offA
    rw [List.filter_eq_self]
    intro a ha
    obtain ⟨j, hj, rfl⟩ := List.mem_iff_getElem.1 ha
    rw [List.length_drop] at hj
    rw [List.getElem_drop]
    have := names_ne hn (i := i + 1 + j) (j := i) (by omega) hi (by omega)
    rw [he] at this
    simp [this]
  have h3 : offA l s = l.take i ++ l.drop (i + 1) := by
    have e : offA l s = offA (l.take i ++ l[i] :: l.drop (i + 1)) s := congrArg (fun x => offA x s) hs
    rw [e]
    unfold offA at h1 h2 ⊢
    rw [List.filter_append, List.filter_cons_of_neg (by simp [he]), h1, h2]
  refine ⟨?_, ?_⟩
  · unfold delA
    rw [h, h3]
    exact (List.eraseIdx_eq_take_drop_succ l i).symm
  · rw [h3, List.length_append, List.length_take, List.length_drop]
    omega
theorem offA_take {l : List Av} {s : ByteArray} {k : Nat} (hk : k < l.length) : offA (l.take (k + 1)) s = offA (l.take k) s ++ if l[k].name = s then [] else [l[k]] := by
  unfold offA
  rw [List.take_succ_eq_append_getElem hk, List.filter_append]
  by_cases h : l[k].name = s
  · rw [if_pos h, List.filter_cons_of_neg (by simp [h])]; rfl
  · rw [if_neg h, List.filter_cons_of_pos (by simp [h])]; rfl
theorem offA_le (l : List Av) (s : ByteArray) (k : Nat) : (offA (l.take k) s).length ≤ k := Nat.le_trans (List.length_filter_le _ _) (by rw [List.length_take]; omega)
set_option maxRecDepth 100000 in
set_option maxHeartbeats 4000000 in
theorem unset_calls (w : World) (f : Fo) (v : Value) (o : Opn) (h : RdF w.heap.size w v f) (hm : mayB f = true) (hmo : mayO o = true) (hk : o.kind = 7) (hta : ∀ n ∈ f, n.attrs.length ≤ 1000) :
    Calls Tryz.prog 66 #[v, opV o] w (RefPost f o w) := by
  obtain ⟨W0, hW0⟩ : ∃ W0, w.alloc (.cells #[.int .i64 o.kind, .int .i64 o.id, .int .i64 o.to, .int .i64 o.at_, .string o.name, .string o.text] 40) = W0 := ⟨_, rfl⟩
  have hrow : W0.heap[w.heap.size]? = some (.cells (OpMay.opRow o) 40 (0, 0)) := by rw [← hW0]; exact World.alloc_heap_new w _
  have hb0 : Below w.heap.size w W0 := by rw [← hW0]; exact (Below.refl _ _).alloc (Nat.le_refl _) _
  have hbox := fun w' (hb : Below W0.heap.size W0 w') => rop_cells ((hb.block w.heap.size (lt_heap hrow)).trans hrow)
  have hrd := fun w' (hb : Below w.heap.size w w') => (h.below nodeE_keeps (w' := w') hb (Nat.le_refl _)).mono nodeE_keeps hb.size
  have hcp := fun w' (hb : Below w.heap.size w w') => copied_calls w' _ f (hrd w' hb) (by have := (may_len hm).2; omega) hta (fun n hn => by have := Work.may_kids hm n hn; omega)
  have hlen := may_len hm
  obtain ⟨A0, c0, rfl, hl0, hc0, h'⟩ := h.form
  simp only [maxLen] at hc0
  obtain ⟨z0, z1, z2, z3, z4, z5, zf⟩ := hbox W0 (Below.refl _ _)
  have hE := unset_E (f := f) hmo hk
  have herr := fun (E : Int) (he : oneE f o = E) (h0 : E ≠ 0) => one_err (f := f) (o := o) (by rw [he]; exact h0)
  have hdo : oneE f o = 0 → oneF f o = f.set o.id.toNat { at_ f o.id with attrs := delA (at_ f o.id).attrs o.name } := fun e => by
    unfold oneF doF
    rw [if_pos e, if_neg (by omega), if_neg (by omega), if_neg (by omega), if_neg (by omega), if_pos hk]
  have hs0 : W0.heap.size = w.heap.size + 1 := by rw [← hW0]; simp
  have Hs0 := Lib.hid hs0
  clear hs0
  have HW0 := Lib.hid hW0; have HB0 := Lib.hid hb0; have Hbox := Lib.hid hbox; have Hrd := Lib.hid hrd; have Hcp := Lib.hid hcp; have Hdo := Lib.hid hdo; have Herr := Lib.hid herr
  clear hW0 hb0 hbox hrd hcp hdo herr hrow h h' hk
  by_cases hn : isNode f o.id = true
  · rw [if_pos hn] at hE
    obtain ⟨n, hid, hnl⟩ := node_nat hn
    have hpl := ((may_is hm).node n hnl).1
    obtain ⟨b, q, _, _, _, _, hA, _, g0, _, _, _, _, _, _, _, _, _, _, _, _, _, _, _⟩ := node_at (Hrd.out W0 HB0.out) hnl
    subst hA
    rw [hid, atN hnl] at hE
    rw [atN hnl] at hpl
    have hnI : (n : Int) < (f.length : Int) := by omega
    have hn0 : (0 : Int) ≤ (n : Int) := by omega
    have Hid' := Lib.hid hid
    rw [hid] at z1
    by_cases hk1 : f[n].kind = 1
    · have hb1 : (f[n].kind == 1) = true := by rw [beq_iff_eq]; exact hk1
      rw [if_pos hb1] at hE
      have hat : attrsB f[n].attrs = true := by
        unfold plainB at hpl
        rw [if_neg (by omega), if_pos hk1] at hpl
        simp only [Bool.and_eq_true] at hpl
        exact hpl.2
      have hnd := ((attrsB_iff _).1 hat).2.1
      have hl8 := ((attrsB_iff _).1 hat).2.2
      have hF0 := Hdo.out
      rw [hid, Int.toNat_natCast, atN hnl] at hF0
      have hkb : (f[n].kind != 1) = false := by rw [bne_eq_false_iff_eq]; exact hk1
      have HE := Lib.hid hE; have HF0 := Lib.hid hF0; have Hnd := Lib.hid hnd
      rw [hk1] at g0
      clear hE hF0 hid hn hm hmo hpl hat hnd hb1 hkb
      go_enter Tryz.func66, Tryz.ntmps66
      go_upto_region 1 with fail
      rw [HW0.out]
      go_upto_region 6 with (go_at_call 132; (with_reducible refine (Hcp.out _ HB0.out).mono ?_); rintro e w6 ⟨u6, rfl, ho6, hb6⟩; have Ho6 := Lib.hid ho6; have Hb6 := Lib.hid hb6; clear ho6 hb6)
      obtain ⟨g, c6, rfl, hg1, hg2, hgf, hg3, hg4⟩ := Ho6.out.form (by omega)
      simp only [maxLen] at hg4
      obtain ⟨cs, va, vk, hcs, hcc, ra, _⟩ := Ho6.out.ne_block hnl
      have k3 := hcc 3 va (by rw [hcs]; rfl)
      obtain ⟨Aa, ca, rfl, hca1, hca2⟩ := ra.form
      simp only [maxLen] at hca2
      clear z0 z1 z2 z3 z4 z5 zf hcs hcc g0
      have hkeep := fun w' (hb' : Below w6.heap.size w6 w') => (⟨(Hbox.out w' (bthen Hb6.out hb')).2.1, (Hbox.out w' (bthen Hb6.out hb')).2.2.2.2.1, cell_grow hb' k3⟩ : w'.cell? ⟨w.heap.size, 1, none⟩ = some (.int .i64 o.id) ∧ w'.cell? ⟨w.heap.size, 4, none⟩ = some (.string o.name) ∧ w'.cell? ⟨g, n * 6 + 3, none⟩ = some (.slice Aa f[n].attrs.length ca))
      rw [Hid'.out] at hkeep
      have hra := fun w' (hb' : Below w6.heap.size w6 w') => (RdL.below attrE_keeps (w' := w') ra.rd hb' (Nat.le_refl _))
      have Hkeep := Lib.hid hkeep; have Ra := Lib.hid hra; have RaS := Lib.hid ra
      have hsa := Its.attrs_small ra.rd
      have Hsa := Lib.hid hsa
      clear hkeep hra ra k3 hsa
      obtain ⟨L, hL⟩ : ∃ L, L = f[n].attrs := ⟨_, rfl⟩
      rw [← hL] at Hkeep Ra RaS Hsa hl8 hca1 Hnd
      have HL := Lib.hid hL
      obtain ⟨s, hs⟩ : ∃ s, s = o.name := ⟨_, rfl⟩
      rw [← hs] at Hkeep
      have HS := Lib.hid hs
      clear hL hs
      obtain ⟨i1, hi1, hy0, hy1, hy2⟩ := info_parts Its.info_rattr
      go_wp2_with fail
      go_loopw [7, 8] (fun u i wr => ∃ k : Nat, k ≤ L.length ∧ i = .int .i64 k ∧ Hid (wr.ownsRow w6.heap.size 131 2 u (offA (L.take k) s).length (Its.atCells (offA (L.take k) s))) ∧ Below w6.heap.size w6 wr) (fun _ i _ => L.length - (intOf i).toNat)
      case atStart => exact ⟨0, Nat.zero_le _, rfl, Lib.hid (made_attrs w6), (Below.refl _ _).alloc (Nat.le_refl _) _⟩
      case round =>
        obtain ⟨k, hk, rfl, hrow, hb⟩ := hrel
        obtain ⟨q1, q4, q3⟩ := Hkeep.out wr hb
        obtain ⟨AO, cO, rfl⟩ := LShown.slice_of hrow.out
        have Hb := Lib.hid hb
        by_cases hlt : k < L.length
        · obtain ⟨ba, oa, rfl, hba, y0, y1, mm1, mm2⟩ := FAttr.attr_at (Ra.out wr hb) hlt
          have hts := offA_take (s := s) hlt
          have htl := offA_le L s k
          generalize L[k] = x at *
          obtain ⟨xn, xv⟩ := x
          simp only at *
          by_cases hx : xn = s
          · rw [if_pos hx, List.append_nil] at hts
            have hxb : (xn.toList == s.toList) = true := by rw [FSame.str_beq]; exact decide_eq_true hx
            have hxn : (xn.toList != s.toList) = false := by unfold bne; rw [hxb]; rfl
            have Hts := Lib.hid hts
            clear hts hx hb mm1 mm2
            go_wp2_with fail
            go_region
            all_goals go_wp2_with fail
            all_goals
              go_roundw
              case rel => exact ⟨k + 1, by omega, by go_num, Lib.hid (by rw [Hts.out]; first | exact hrow.out | exact hrow.out.drew), by first | exact Hb.out | exact Hb.out.drew⟩
              case measure => simp [intOf]; omega
          · rw [if_neg hx] at hts
            have hxb : (xn.toList == s.toList) = false := by rw [FSame.str_beq]; exact decide_eq_false hx
            have hxn : (xn.toList != s.toList) = true := by unfold bne; rw [hxb]; rfl
            have Hts := Lib.hid hts
            clear hts hx hb mm1 mm2
            go_wp2_with fail
            go_region
            obtain ⟨WR, hWR⟩ : ∃ WR, WR = wr.drew := ⟨_, rfl⟩
            rw [← hWR]
            have HbX : Hid (Below w6.heap.size w6 WR) := Lib.hid (by rw [hWR]; exact Hb.out.drew)
            have HrowX : Hid (WR.ownsRow w6.heap.size 131 2 (.slice AO (offA (L.take k) s).length cO) (offA (L.take k) s).length (Its.atCells (offA (L.take k) s))) := Lib.hid (by rw [hWR]; exact hrow.out.drew)
            have x0 : WR.cell? ⟨ba, oa + k * 2, none⟩ = some (.string xn) := by rw [hWR]; exact y0
            have x1 : WR.cell? ⟨ba, oa + k * 2 + 1, none⟩ = some (.string xv) := by rw [hWR]; exact y1
            obtain ⟨p1, p4, p3⟩ := Hkeep.out WR HbX.out
            clear hWR y0 y1 q1 q4 q3 hrow
            go_wp2_with (at_builtin; go_loud (refine wpList_append_own_at (WR.alloc (.cells #[.string xn, .string xv] 131)) rfl _ _ 84 rfl w6.heap.size 131 i1 _ 2 32 Tryz.underlying84 hi1 hy0 hy1 hy2 rfl (by decide) (.slice AO (offA (L.take k) s).length cO) _ (Its.atCells (offA (L.take k) s)) rfl (own_keep HrowX.out (fun g hg => Below.heap_alloc _ _ _ (HrowX.out.lt g hg).2)) ⟨WR.heap.size, 0, none⟩ 1 1 [.string xn, .string xv] rfl rfl (World.news_of_block (cs := #[.string xn, .string xv]) (t := 131) (fr := (0, 0)) (heap_alloc_new WR _)) (by simp [Value.oneCell']) (by simp only [maxLen]; omega) (by omega) (by simp; have := HbX.out.size; omega) ?_; intro v8 w8 hown8 hgrow8 hnil8 hat8; have Hown8 := Lib.hid hown8; have Hgrow8 := Lib.hid hgrow8; clear hown8 hgrow8 hnil8 hat8))
            go_roundw
            case rel =>
              refine ⟨k + 1, by omega, by go_num, Lib.hid ?_, FTops.grown_below (HbX.out.alloc HbX.out.size _) Hgrow8.out (own_keep HrowX.out (fun g hg => Below.heap_alloc _ _ _ (HrowX.out.lt g hg).2)) (Nat.le_refl _)⟩
              rw [Hts.out, Its.atCells_snoc, List.length_append]
              exact Hown8.out
            case measure => simp [intOf]; omega
        · obtain rfl : k = L.length := by omega
          have hfull : offA (L.take L.length) s = offA L s := by rw [List.take_length]
          rw [hfull] at hrow
          have Hrow := Lib.hid hrow.out
          clear hrow hb hlt hk hfull
          try rw [List.take_length]
          cases hfd : findA L s with
          | none =>
            have he := offA_none hfd
            have hE := HE.out
            rw [← HL.out, ← HS.out, hfd, if_neg (by simp)] at hE
            have hF := Herr.out 75 hE (by decide)
            have hbq : (((offA L s).length : Int) == (L.length : Int)) = true := by rw [he]; simp
            have HE2 := Lib.hid hE; have HF2 := Lib.hid hF
            clear hE hF he hfd
            generalize (offA L s).length = m at *
            go_wp2_with fail
            go_ret2
            exact ⟨_, by rw [HE2.out]; rfl, by rw [HF2.out]; exact Hrd.out _ (bthen HB0.out (bthen Hb6.out Hb.out)), bthen HB0.out (bthen Hb6.out Hb.out)⟩
          | some j =>
            obtain ⟨e1, e2⟩ := offA_some Hnd.out hfd
            have hE := HE.out
            rw [← HL.out, ← HS.out, hfd, if_pos (by simp)] at hE
            have hF := HF0.out hE
            rw [← HL.out, ← HS.out, ← e1] at hF
            have hbq : (((offA L s).length : Int) == (L.length : Int)) = false := by rw [beq_eq_false_iff_ne]; omega
            have hO := Ho6.out.below Hb.out
            obtain ⟨g2, c2, e4, _, _, hf2, _⟩ := hO.form (by omega)
            injection e4 with e4 _ e5
            injection e4 with e4
            injection e4 with e4
            subst e4 e5
            have kf3 := hf2 (n * 6 + 3)
            have hgw : w.heap.size ≤ g := by have := Hs0.out; omega
            have hrs := Its.rows_attrs (S := fun b => b ≠ g) Hrow.out (fun g' hg' => by have h1 := (Hrow.out.lt g' hg').1; show g' ≠ g; omega) (fun a ha => Hsa.out a (List.mem_filter.1 ha).1)
            have hst := hO.store (j := 3) (u := .slice AO (offA L s).length cO) (n := { f[n] with attrs := offA L s }) hnl (by decide) (fun cs hcs => by
              obtain ⟨va, vk, rfl, r1, r2, r3, r4, r5, r6⟩ := hcs
              exact ⟨_, vk, rfl, hrs, r2, r3, r4, r5, r6⟩)
            have HE2 := Lib.hid hE; have HF2 := Lib.hid hF; have Hst := Lib.hid hst
            clear hE hF e1 e2 hfd hO hf2 hrs hst
            generalize hm' : (offA L s).length = m at *
            clear hm'
            go_wp2_with fail
            go_ret2
            exact ⟨_, by rw [HE2.out]; rfl, by rw [HF2.out]; exact Hst.out.rd, (bthen HB0.out (bthen Hb6.out Hb.out)).setCell hgw _⟩
    · have hkb : (f[n].kind != 1) = true := by rw [bne_iff_ne]; exact hk1
      have hkb2 : (f[n].kind == 1) = false := by rw [beq_eq_false_iff_ne]; exact hk1
      rw [if_neg (by rw [hkb2]; decide)] at hE
      have hF := Herr.out 71 hE (by decide)
      have HE := Lib.hid hE; have HF := Lib.hid hF
      clear hE hF hid hn hm hmo hpl hk1
      generalize f[n].kind = kn at *
      go_enter Tryz.func66, Tryz.ntmps66
      go_upto_region 1 with fail
      rw [HW0.out]
      go_wp2_with fail
      go_ret2
      exact ⟨_, by rw [HE.out]; rfl, by rw [HF.out]; exact Hrd.out _ HB0.out, HB0.out⟩
  · rw [if_neg hn] at hE
    have hF := Herr.out 70 hE (by decide)
    have HE := Lib.hid hE; have HF := Lib.hid hF
    rw [node_iff] at hn
    clear hE hF hm hmo
    by_cases h0 : o.id < 0
    · clear hn
      go_enter Tryz.func66, Tryz.ntmps66
      go_upto_region 1 with fail
      rw [HW0.out]
      go_wp2_with fail
      go_ret2
      exact ⟨_, by rw [HE.out]; rfl, by rw [HF.out]; exact Hrd.out _ HB0.out, HB0.out⟩
    · have h1 : (f.length : Int) ≤ o.id := by omega
      clear hn
      go_enter Tryz.func66, Tryz.ntmps66
      go_upto_region 1 with fail
      rw [HW0.out]
      go_wp2_with fail
      go_ret2
      exact ⟨_, by rw [HE.out]; rfl, by rw [HF.out]; exact Hrd.out _ HB0.out, HB0.out⟩
end Go.Proofs.YthdenkkllpkplaaGreat.R7
end
section
/- treillageref07: copied, with the row of one node's attrs apart from all else (for set, that stores into it). -/
namespace Go.Proofs.YthdenkkllpkplaaGreat.R7
open Go Go.RowKit Go.Proofs.YthdenkkllpkplaaGreat.Seq Go.Proofs.YthdenkkllpkplaaGreat.WS Go.Proofs.YthdenkkllpkplaaGreat.FS Go.Proofs.YthdenkkllpkplaaGreat.Mem Go.Proofs.YthdenkkllpkplaaGreat.Rd Go.Proofs.YthdenkkllpkplaaGreat.Shapes Go.Proofs.YthdenkkllpkplaaGreat.Word Go.Proofs.YthdenkkllpkplaaGreat.FFam Go.Proofs.YthdenkkllpkplaaGreat.OwnF Go.Proofs.YthdenkkllpkplaaGreat.PlA
set_option linter.unusedVariables false
set_option linter.unusedSimpArgs false
/-- The cells of node i. -/
abbrev cellsAt (xs : List Value) (i : Nat) : List Value := (xs.drop (i * 6)).take 6
/-- The one node whose attrs are a row of their own, in block ba if any. -/
def SpN (base : Nat) (w : World) (v : Value) (ba : Option Nat) (cs : List Value) (n : Nd) : Prop := ∃ va vk, cs = [.int .i64 n.kind, .string n.name, .string n.text, va, .int .i64 n.parent, vk] ∧ va.ownBlock = ba ∧ w.ownsRow base 131 2 va n.attrs.length (Its.atCells n.attrs) ∧
  (∀ b, ba = some b → v.ownBlock ≠ some b) ∧ RdS intS 1 (fun b => v.ownBlock ≠ some b ∧ ba ≠ some b) w vk n.kids ∧ (∀ a ∈ n.attrs, a.name.size ≤ maxLen ∧ a.value.size ≤ maxLen) ∧ n.name.size ≤ maxLen ∧ n.text.size ≤ maxLen ∧ (Lit.int .i64 n.kind).wf = true ∧ (Lit.int .i64 n.parent).wf = true
def OwnA (n0 base : Nat) (w : World) (v : Value) (f : Fo) : Prop := ∃ xs ba, w.ownsRow base 86 6 v f.length xs ∧ (∀ i (hi : i < f.length), i ≠ n0 → nodeS (fun b => v.ownBlock ≠ some b ∧ ba ≠ some b) w (cellsAt xs i) f[i]) ∧
  (∀ hi : n0 < f.length, SpN base w v ba (cellsAt xs n0) f[n0]) ∧ (f.length ≤ n0 → ba = none)
theorem SpN.node {base : Nat} {w : World} {v : Value} {ba : Option Nat} {cs : List Value} {n : Nd} (h : SpN base w v ba cs n) : nodeS (fun b => v.ownBlock ≠ some b) w cs n := by
  obtain ⟨va, vk, e, hb, ha, hne, hk, hs, hm⟩ := h
  exact ⟨va, vk, e, Its.rows_attrs ha (fun g hg => hne g (by rw [← hb]; exact hg)) hs, hk.keep (fun _ _ _ => rfl) (Nat.le_refl _) (fun b x _ => x.1), hm⟩
theorem OwnA.own {n0 base : Nat} {w : World} {v : Value} {f : Fo} (h : OwnA n0 base w v f) : OwnF 86 base w v f := by
  obtain ⟨xs, ba, h1, h2, h3, _⟩ := h
  refine ⟨xs, h1, fun i hi => ?_⟩
  by_cases e : i = n0
  · subst e; exact (h3 hi).node
  · exact (h2 i hi e).keep (fun _ _ _ => rfl) (Nat.le_refl _) (fun b x _ => x.1)
theorem OwnA.nil {n0 base : Nat} {w : World} {v : Value} (h : w.ownsRow base 86 6 v 0 []) : OwnA n0 base w v [] := ⟨[], none, h, fun i hi => absurd hi (by simp), fun hi => absurd hi (by simp), fun _ => rfl⟩
theorem cellsAt_left {xs ys : List Value} {i n : Nat} (hx : xs.length = n * 6) (hi : i < n) : cellsAt (xs ++ ys) i = cellsAt xs i := by
  unfold cellsAt
  rw [List.drop_append_of_le_length (by omega), List.take_append_of_le_length (by rw [List.length_drop]; omega)]
theorem cellsAt_right {xs ys : List Value} {n : Nat} (hx : xs.length = n * 6) (hy : ys.length = 6) : cellsAt (xs ++ ys) n = ys := by
  unfold cellsAt
  rw [List.drop_append, List.drop_eq_nil_of_le (by omega), List.nil_append, show n * 6 - xs.length = 0 by omega, List.drop_zero, List.take_of_length_le (by omega)]
set_option maxHeartbeats 1000000 in
theorem boxed_moreA {w wo W w8 : World} {fs : Fo} {gn kb n0 : Nat} {n : Nd} {va vk : Value} {AO : Option Addr} {nO cO : Nat} {v8 : Value} {xsO : List Value} {ba : Option Nat}
    (hro : wo.ownsRow w.heap.size 86 6 (.slice AO nO cO) fs.length xsO) (hnd : ∀ i (hi : i < fs.length), i ≠ n0 → nodeS (fun b => (Value.slice AO nO cO).ownBlock ≠ some b ∧ ba ≠ some b) wo (cellsAt xsO i) fs[i]) (hsp : ∀ hi : n0 < fs.length, SpN w.heap.size wo (.slice AO nO cO) ba (cellsAt xsO n0) fs[n0]) (hba : fs.length ≤ n0 → ba = none)
    (h : Boxed gn n va vk wo W) (ha : W.ownsRow (gn + 1) 131 2 va n.attrs.length (Its.atCells n.attrs)) (hkd : W.ownsRow kb 3 1 vk n.kids.length (n.kids.map (Value.int .i64))) (hkb : gn < kb) (hak : ∀ b, va.ownBlock = some b → b < kb) (hww : w.heap.size ≤ wo.heap.size)
    (hsa : ∀ a ∈ n.attrs, a.name.size ≤ maxLen ∧ a.value.size ≤ maxLen) (hsk : ∀ y ∈ n.kids, (Lit.int .i64 y).wf = true) (hsm : n.name.size ≤ maxLen ∧ n.text.size ≤ maxLen ∧ (Lit.int .i64 n.kind).wf = true ∧ (Lit.int .i64 n.parent).wf = true)
    (hown : w8.ownsRow w.heap.size 86 6 v8 (fs.length + 1) (xsO ++ (ndRow n va vk).toList)) (hgr : (W.alloc (.cells (ndRow n va vk) 86)).grownBy w8 (Value.slice AO nO cO).ownBlock)
    (hat : v8.ownBlock = (Value.slice AO nO cO).ownBlock ∨ v8.ownBlock = some (W.alloc (.cells (ndRow n va vk) 86)).heap.size) : OwnA n0 w.heap.size w8 v8 (fs ++ [n]) := by
  have hx := hro.1
  have hat' := h.at_
  have hws := h.below.size
  have hS : ∀ b, b < W.heap.size + 1 → (Value.slice AO nO cO).ownBlock ≠ some b → v8.ownBlock ≠ some b := fun b hb h1 h2 => by
    rcases hat with e | e
    · exact h1 (e.symm.trans h2)
    · rw [e] at h2; injection h2 with h2; simp at h2; omega
  have hkeep : ∀ b, b < W.heap.size → (Value.slice AO nO cO).ownBlock ≠ some b → w8.heap[b]? = W.heap[b]? := fun b hb h1 => (hgr.block b (by simp; omega) (fun e => h1 e.symm)).trans (Below.heap_alloc _ _ _ hb)
  have hkeepo : ∀ b, b < wo.heap.size → (Value.slice AO nO cO).ownBlock ≠ some b → w8.heap[b]? = wo.heap[b]? := fun b hb h1 => (hkeep b (by omega) h1).trans (h.below.block b hb)
  have hs8 : W.heap.size + 1 ≤ w8.heap.size := by have := hgr.size; simpa using this
  have hvO : ∀ b, (Value.slice AO nO cO).ownBlock = some b → b < wo.heap.size := fun b hb => (hro.lt b hb).2
  have hvN : ∀ b, wo.heap.size ≤ b → (Value.slice AO nO cO).ownBlock ≠ some b := fun b hb e => by have := hvO b e; omega
  have hold : ∀ (ba' : Option Nat), (∀ b, b < wo.heap.size → ba ≠ some b → ba' ≠ some b) → ∀ i (hi : i < fs.length), i ≠ n0 → nodeS (fun b => v8.ownBlock ≠ some b ∧ ba' ≠ some b) w8 (cellsAt xsO i) fs[i] := fun ba' hb' i hi hn =>
    (hnd i hi hn).keep (fun b x hb => hkeepo b hb x.1) (by omega) (fun b x hb => ⟨hS b (by omega) x.1, hb' b hb x.2⟩)
  have hkids : ∀ (ba' : Option Nat), (∀ b, kb ≤ b → b < W.heap.size → ba' ≠ some b) → RdS intS 1 (fun b => v8.ownBlock ≠ some b ∧ ba' ≠ some b) w8 vk n.kids := fun ba' hb' => by
    refine (RdS.of_own (E := intS) (S := fun b => kb ≤ b) hkd rfl (fun g hg => (hkd.lt g hg).1) (fun i hi => ⟨?_, hsk _ (List.getElem_mem _)⟩)).keep (fun b x hb => hkeep b hb (hvN b (by omega))) (by omega) (fun b x hb => ⟨hS b (by omega) (hvN b (by omega)), hb' b x hb⟩)
    rw [Nat.mul_one, List.drop_eq_getElem_cons (by simpa using hi)]
    simp
  have hattr : ∀ (ba' : Option Nat), (∀ b, gn < b → b < W.heap.size → ba' ≠ some b) → RdS attrS 2 (fun b => v8.ownBlock ≠ some b ∧ ba' ≠ some b) w8 va n.attrs := fun ba' hb' =>
    (Its.rows_attrs (S := fun b => gn < b) ha (fun g hg => (ha.lt g hg).1) hsa).keep (fun b x hb => hkeep b hb (hvN b (by omega))) (by omega) (fun b x hb => ⟨hS b (by omega) (hvN b (by omega)), hb' b x hb⟩)
  have hl1 : (fs ++ [n]).length = fs.length + 1 := by simp
  have hget : ∀ i (hi : i < (fs ++ [n]).length) (h2 : i < fs.length), (fs ++ [n])[i] = fs[i] := fun i hi h2 => List.getElem_append_left h2
  have hnew : ∀ (hi : fs.length < (fs ++ [n]).length), (fs ++ [n])[fs.length] = n := fun hi => by simp
  have hc1 : ∀ i, i < fs.length → cellsAt (xsO ++ (ndRow n va vk).toList) i = cellsAt xsO i := fun i hi => cellsAt_left hx hi
  have hc2 : cellsAt (xsO ++ (ndRow n va vk).toList) fs.length = (ndRow n va vk).toList := cellsAt_right hx rfl
  by_cases h1 : n0 < fs.length
  · obtain ⟨va0, vk0, e0, hb0, ho0, hne0, hk0, hm0⟩ := hsp h1
    have hlt0 : ∀ b, ba = some b → w.heap.size ≤ b ∧ b < wo.heap.size := fun b hb => ho0.lt b (hb0.trans hb)
    refine ⟨_, ba, by rw [hl1]; exact hown, fun i hi hn => ?_, fun hi => ?_, fun hi => by simp at hi; omega⟩
    · rw [hl1] at hi
      by_cases hif : i < fs.length
      · rw [hc1 i hif, hget i _ hif]
        exact hold ba (fun b _ x => x) i hif hn
      · obtain rfl : i = fs.length := by omega
        rw [hc2, hnew]
        exact ⟨va, vk, rfl, hattr ba (fun b hb _ e => by have := (hlt0 b e).2; omega), hkids ba (fun b hb _ e => by have := (hlt0 b e).2; omega), hsm⟩
    · rw [hc1 n0 h1, hget n0 _ h1]
      refine ⟨va0, vk0, e0, hb0, own_keep ho0 (fun g hg => hkeepo g (ho0.lt g hg).2 (hne0 g (hb0.symm.trans hg))), fun b hb => hS b (by have := (hlt0 b hb).2; omega) (hne0 b hb), hk0.keep (fun b x hb => hkeepo b hb x.1) (by omega) (fun b x hb => ⟨hS b (by omega) x.1, x.2⟩), hm0⟩
  · by_cases h2 : n0 = fs.length
    · subst h2
      have hlt0 : ∀ b, va.ownBlock = some b → gn < b ∧ b < W.heap.size := fun b hb => ha.lt b hb
      refine ⟨_, va.ownBlock, by rw [hl1]; exact hown, fun i hi hn => ?_, fun hi => ?_, fun hi => by rw [hl1] at hi; omega⟩
      · rw [hl1] at hi
        have hif : i < fs.length := by omega
        rw [hc1 i hif, hget i _ hif]
        exact hold _ (fun b hb _ e => by have := (hlt0 b e).1; omega) i hif hn
      · rw [hc2, hnew]
        refine ⟨va, vk, rfl, rfl, World.ownsRow.mono (own_keep ha (fun g hg => hkeep g (hlt0 g hg).2 (hvN g (by have := (hlt0 g hg).1; omega)))) (by omega), fun b hb => hS b (by have := (hlt0 b hb).2; omega) (hvN b (by have := (hlt0 b hb).1; omega)), hkids _ (fun b hb _ e => by have := hak b e; omega), hsa, hsm⟩
    · have hb0 := hba (by omega)
      subst hb0
      refine ⟨_, none, by rw [hl1]; exact hown, fun i hi hn => ?_, fun hi => by rw [hl1] at hi; omega, fun _ => rfl⟩
      rw [hl1] at hi
      by_cases hif : i < fs.length
      · rw [hc1 i hif, hget i _ hif]
        exact hold none (fun b _ x => x) i hif hn
      · obtain rfl : i = fs.length := by omega
        rw [hc2, hnew]
        exact ⟨va, vk, rfl, hattr none (fun b _ _ e => by cases e), hkids none (fun b _ _ e => by cases e), hsm⟩
set_option maxRecDepth 100000 in
set_option maxHeartbeats 8000000 in
theorem copied_callsA (n0 : Nat) (w : World) (v : Value) (f : Fo) (h : RdF w.heap.size w v f) (hl70 : f.length ≤ 1000) (ha12 : ∀ n ∈ f, n.attrs.length ≤ 1000) (hk12 : ∀ n ∈ f, n.kids.length ≤ 1000) :
    Calls Tryz.prog 132 #[v] w fun e w' => ∃ u, e = .returned u ∧ OwnA n0 w.heap.size w' u f ∧ Below w.heap.size w w' := by
  obtain ⟨A0, c0, rfl, hl0, hc0, h'⟩ := h.form
  simp only [maxLen] at hc0
  obtain ⟨i0, hi0, hz0, hz1, hz2⟩ := info_parts Its.info_rnode
  obtain ⟨i1, hi1, hy0, hy1, hy2⟩ := info_parts Its.info_rattr
  obtain ⟨i2, hi2, hx0, hx1, hx2⟩ := info_parts info_int
  have Hh := Lib.hid h'; have Ha := Lib.hid ha12; have Hk := Lib.hid hk12
  clear h h' ha12 hk12
  go_enter Tryz.func132, Tryz.ntmps132
  go_wp2_with fail
  have hO0 : OwnA n0 w.heap.size (w.alloc (.cells #[] 86)) (.slice (some ⟨w.heap.size, 0, none⟩) 0 0) (f.take 0) := OwnA.nil (made_nodes w)
  have HO0 := Lib.hid hO0
  clear hO0
  go_loopw [3, 4] (fun u i wr => ∃ k : Nat, k ≤ f.length ∧ i = .int .i64 k ∧ Hid (OwnA n0 w.heap.size wr u (f.take k)) ∧ Below w.heap.size w wr) (fun _ i _ => f.length - (intOf i).toNat)
  case atStart => exact ⟨0, Nat.zero_le _, rfl, HO0, (Below.refl _ _).alloc (Nat.le_refl _) _⟩
  case round =>
    obtain ⟨k, hk, rfl, hO, hb⟩ := hrel
    obtain ⟨xsO, ba, hrowO, hndO, hspO, hbaO⟩ := hO.out
    obtain ⟨AO, nO, cO, rfl⟩ := Build.own_form hrowO
    have HrowO := Lib.hid hrowO; have HndO := Lib.hid hndO; have HspO := Lib.hid hspO; have HbaO := Lib.hid hbaO
    clear hrowO hndO hspO hbaO
    by_cases hlt : k < f.length
    · obtain ⟨b, o, Aa, ca, Ak, ck, rfl, hbl, g0, g1, g2, g3, g4, g5, ra, rk, la, lca, lk, lck, m1, m2, m3, m4⟩ := node_at Hh.out hlt
      have han := Ha.out f[k] (List.getElem_mem _)
      have hkn := Hk.out f[k] (List.getElem_mem _)
      have htk : f.take (k + 1) = f.take k ++ [f[k]] := List.take_succ_eq_append_getElem hlt
      generalize f[k] = n at *
      have p0 := cell_below hb g0 hbl
      have p1 := cell_below hb g1 hbl
      have p2 := cell_below hb g2 hbl
      have p3 := cell_below hb g3 hbl
      have p4 := cell_below hb g4 hbl
      have p5 := cell_below hb g5 hbl
      have hsm : n.name.size ≤ maxLen ∧ n.text.size ≤ maxLen ∧ (Lit.int .i64 n.kind).wf = true ∧ (Lit.int .i64 n.parent).wf = true := ⟨m1, m2, m3, m4⟩
      have hsa := Its.attrs_small ra
      have hsk := kids_wf' rk
      simp only [maxLen] at lca lck
      obtain ⟨wo, rfl⟩ : ∃ wo : World, wo = wr := ⟨_, rfl⟩
      have hra := fun w' (hb' : Below wo.heap.size wo w') => ra.below attrE_keeps (w' := w') (bthen hb hb') (Nat.le_refl _)
      have hrk := fun w' (hb' : Below wo.heap.size wo w') => rk.below (intE_keeps _) (w' := w') (bthen hb hb') (Nat.le_refl _)
      have Hra := Lib.hid hra; have Hrk := Lib.hid hrk; have Htk := Lib.hid htk; have Hb := Lib.hid hb; have Hsm := Lib.hid hsm; have Hsa := Lib.hid hsa; have Hsk := Lib.hid hsk
      clear g0 g1 g2 g3 g4 g5 ra rk htk hb m1 m2 m3 m4 hra hrk hsm hsa hsk
      obtain ⟨kd, nm, tx, ats, par, kks⟩ := n
      simp only at *
      go_upto_region 6 with fail
      obtain ⟨W5, hW5⟩ : ∃ W5, wo.alloc (.cells #[.int .i64 kd, .string nm, .string tx, .slice Aa ats.length ca, .int .i64 par, .slice Ak kks.length ck] 86) = W5 := ⟨_, rfl⟩
      obtain ⟨gn, hgn⟩ : ∃ gn, gn = wo.heap.size := ⟨_, rfl⟩
      have hB5 : Boxed gn ⟨kd, nm, tx, ats, par, kks⟩ (.slice Aa ats.length ca) (.slice Ak kks.length ck) wo W5 := ⟨by rw [← hW5]; exact heap_new hgn, by rw [← hW5]; exact (Below.refl _ _).alloc (Nat.le_refl _) _, hgn⟩
      have hs5 : W5.heap.size = gn + 1 := by rw [← hW5, hgn]; simp
      rw [hW5, ← hgn]
      have HB5 := Lib.hid hB5
      clear hW5 p0 p1 p2 p3 p4 p5
      have x3 : (W5.alloc (.cells #[] 131)).cell? ⟨gn, 3, none⟩ = some (.slice Aa ats.length ca) := cell_alloc (row_cells hB5.row).2.2.2.1 _
      have y3 := (row_cells hB5.row).2.2.2.1
      have hma : (W5.alloc (.cells #[] 131)).ownsRow (gn + 1) 131 2 (.slice (some ⟨W5.heap.size, 0, none⟩) 0 0) 0 [] := by
        have := made_attrs W5
        rw [hs5] at this ⊢
        exact this
      have hAn : Aa = none → ats.length = 0 := fun e => by
        subst e
        rw [rd_none (Hra.out wo (Below.refl _ _))]; rfl
      have hcn : ∀ ad, Aa = some ad → ∀ j u, (Its.atCells ats)[j]? = some u → (W5.alloc (.cells #[] 131)).cell? (ad.add j) = some u := fun ad e j u hj => by
        subst e
        exact Work.attr_cells (Hra.out _ (hB5.below.alloc hB5.below.size _)) j u hj
      have Hma := Lib.hid hma; have HAn := Lib.hid hAn; have Hcn := Lib.hid hcn; have Hs5 := Lib.hid hs5
      clear hma hAn hcn hB5 hgn hs5
      go_upto_region 7 with (at_builtin; go_loud (refine pl_any (W5.alloc (.cells #[] 131)) rfl _ _ 84 131 2 32 _ i1 rfl Tryz.underlying84 hi1 hy0 hy1 hy2 rfl (by decide) (gn + 1) (.slice (some ⟨W5.heap.size, 0, none⟩) 0 0) 0 [] Aa ats.length ca (Its.atCells ats) rfl Hma.out rfl HAn.out (Its.atCells_length ats) Hcn.out (attrs_one ats) (by simp only [maxLen]; omega) (by omega) (by simp; have := Hs5.out; omega) ?_; intro va w6 hown6 hgr6 hat6; rw [Nat.zero_add, List.nil_append] at hown6; obtain ⟨A6, n6, c6, rfl⟩ := Build.own_form hown6; obtain ⟨e6, hB6, ho6⟩ := boxed_attrs HB5.out hown6 hgr6; have k3 : w6.cell? ⟨gn, 3, none⟩ = some (.slice Aa ats.length ca) := (row_cells e6).2.2.2.1; have k3f := (row_cells e6).2.2.2.2.2.2 3; have HB6 := Lib.hid hB6; have Ho6 := Lib.hid ho6; clear e6 hB6 ho6 hown6 hgr6 hat6))
      clear y3 x3 Hma HAn Hcn Hra k3 k3f Hs5 HB5
      obtain ⟨W6, hW6⟩ : ∃ W6, w6.setCell ⟨gn, 3, none⟩ (.slice A6 n6 c6) = W6 := ⟨_, rfl⟩
      rw [hW6] at HB6 Ho6 ⊢
      clear hW6
      have x5 : (W6.alloc (.cells #[] 3)).cell? ⟨gn, 5, none⟩ = some (.slice Ak kks.length ck) := cell_alloc (row_cells HB6.out.row).2.2.2.2.2.1 _
      have y5 := (row_cells HB6.out.row).2.2.2.2.2.1
      have hAn : Ak = none → kks.length = 0 := fun e => by
        subst e
        rw [rd_none (Hrk.out wo (Below.refl _ _))]; rfl
      have hcn : ∀ ad, Ak = some ad → ∀ j u, (kks.map (Value.int .i64))[j]? = some u → (W6.alloc (.cells #[] 3)).cell? (ad.add j) = some u := fun ad e j u hj => by
        subst e
        exact int_cells (Hrk.out _ (HB6.out.below.alloc HB6.out.below.size _)) j u hj
      have HAn := Lib.hid hAn; have Hcn := Lib.hid hcn
      clear hAn hcn
      go_upto_region 8 with (at_builtin; go_loud (refine pl_any (W6.alloc (.cells #[] 3)) rfl _ _ 53 3 1 8 _ i2 rfl Tryz.underlying53 hi2 hx0 hx1 hx2 rfl (by decide) W6.heap.size (.slice (some ⟨W6.heap.size, 0, none⟩) 0 0) 0 [] Ak kks.length ck (kks.map (Value.int .i64)) rfl (made_ints W6) rfl HAn.out (by rw [List.length_map, Nat.mul_one]) Hcn.out (ints_one kks) (by simp only [maxLen]; omega) (by omega) (by simp) ?_; intro vk w7 hown7 hgr7 hat7; rw [Nat.zero_add, List.nil_append] at hown7; obtain ⟨A7, n7, c7, rfl⟩ := Build.own_form hown7; obtain ⟨e7, hB7, ho7, ha7⟩ := boxed_ints HB6.out Ho6.out hown7 hgr7; have k5 : w7.cell? ⟨gn, 5, none⟩ = some (.slice Ak kks.length ck) := (row_cells e7).2.2.2.2.2.1; have k5f := (row_cells e7).2.2.2.2.2.2 5; have HB7 := Lib.hid hB7; have Ho7 := Lib.hid ho7; have Ha7 := Lib.hid ha7; clear e7 hB7 ho7 ha7 hown7 hgr7 hat7))
      clear y5 x5 HAn Hcn Hrk k5 k5f
      obtain ⟨W7, hW7⟩ : ∃ W7, w7.setCell ⟨gn, 5, none⟩ (.slice A7 n7 c7) = W7 := ⟨_, rfl⟩
      rw [hW7] at HB7 Ho7 Ha7 ⊢
      clear hW7
      obtain ⟨z0, z1, z2, z3, z4, z5, zf⟩ := row_cells HB7.out.row
      simp only at z0 z1 z2 z4
      have hkb : gn < W6.heap.size := lt_heap HB6.out.row
      have hak : ∀ b, (Value.slice A6 n6 c6).ownBlock = some b → b < W6.heap.size := fun b hb => (Ho6.out.lt b hb).2
      have Hak := Lib.hid hak
      clear hak
      have hkl : (f.take k).length = k := by rw [List.length_take]; omega
      have hro : W7.ownsRow w.heap.size 86 6 (.slice AO nO cO) k xsO := by
        have := own_keep HrowO.out (w' := W7) (fun g hg => HB7.out.below.block g (HrowO.out.lt g hg).2)
        rwa [hkl] at this
      have hro2 := own_keep hro (w' := W7.alloc (.cells #[.int .i64 kd, .string nm, .string tx, .slice A6 n6 c6, .int .i64 par, .slice A7 n7 c7] 86)) (fun g hg => Below.heap_alloc _ _ _ (hro.lt g hg).2)
      have Hro2 := Lib.hid hro2
      have hsz : w.heap.size ≤ W7.heap.size := (bthen Hb.out HB7.out.below).size
      clear hro hro2 HB6 Ho6
      go_wp2_with (at_builtin; go_loud (refine wpList_append_own_at (W7.alloc (.cells #[.int .i64 kd, .string nm, .string tx, .slice A6 n6 c6, .int .i64 par, .slice A7 n7 c7] 86)) rfl _ _ 36 rfl w.heap.size 86 i0 _ 6 96 Tryz.underlying36 hi0 hz0 hz1 hz2 rfl (by decide) (.slice AO nO cO) k xsO rfl Hro2.out ⟨W7.heap.size, 0, none⟩ 1 1 [.int .i64 kd, .string nm, .string tx, .slice A6 n6 c6, .int .i64 par, .slice A7 n7 c7] rfl rfl (World.news_of_block (cs := #[.int .i64 kd, .string nm, .string tx, .slice A6 n6 c6, .int .i64 par, .slice A7 n7 c7]) (t := 86) (fr := (0, 0)) (heap_alloc_new W7 _)) (by simp [Value.oneCell']) (by simp only [maxLen]; omega) (by omega) (by simp; omega) ?_; intro v8 w8 hown8 hgrow8 hnil8 hat8; have Hown8 := Lib.hid hown8; have Hgrow8 := Lib.hid hgrow8; have Hat8 := Lib.hid hat8; clear hown8 hgrow8 hnil8 hat8))
      go_roundw
      case rel =>
        refine ⟨k + 1, by omega, by go_num, Lib.hid ?_, ?_⟩
        · rw [Htk.out]
          exact boxed_moreA (n := ⟨kd, nm, tx, ats, par, kks⟩) HrowO.out HndO.out HspO.out HbaO.out HB7.out Ha7.out Ho7.out hkb Hak.out Hb.out.size Hsa.out Hsk.out Hsm.out (by rw [hkl]; exact Hown8.out) Hgrow8.out Hat8.out
        · exact ((bthen Hb.out HB7.out.below).alloc hsz _).trans ((Off.grown (Y := fun b => w.heap.size ≤ b) Hgrow8.out (fun r hr => (HrowO.out.lt r hr).1)).toBelow (by simp; omega) (fun b hb => hb))
      case measure => simp [intOf]; omega
    · obtain rfl : k = f.length := by omega
      have hfin := hO.out
      rw [List.take_length] at hfin
      have Hfin := Lib.hid hfin; have Hb := Lib.hid hb
      clear hfin hb hlt
      go_wp2_with fail
      go_ret
      exact ⟨_, rfl, Hfin.out, Hb.out⟩
end Go.Proofs.YthdenkkllpkplaaGreat.R7
end
