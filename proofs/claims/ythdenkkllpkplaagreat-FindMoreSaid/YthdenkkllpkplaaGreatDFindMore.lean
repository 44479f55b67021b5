/- The law FindMore answers true at every input, and each argument reads afterwards as it read before; no condition. -/
import Derived.Deep.RegionHeld3
import Derived.Test.YthdenkkllpkplaaGreatRows
import Derived.WalkKit
import Derived.ProofKit
import Derived.OpenShut
import Derived.ShutString
import Derived.ChangeOld
import Derived.Below
import Derived.SizedLaws
import Derived.Test.YthdenkkllpkplaaGreatC22
import Derived.Test.YthdenkkllpkplaaGreatC24
import Derived.Test.YthdenkkllpkplaaGreatC23
import Derived.Test.YthdenkkllpkplaaGreatC08
section
/- treillagelaw10.FindMore. -/
namespace Go.Proofs.YthdenkkllpkplaaGreat.LMore
open Go Go.RowKit Go.Proofs.YthdenkkllpkplaaGreat.Seq Go.Proofs.YthdenkkllpkplaaGreat.WS Go.Proofs.YthdenkkllpkplaaGreat.FS Go.Proofs.YthdenkkllpkplaaGreat.Mem Go.Proofs.YthdenkkllpkplaaGreat.Rd Go.Proofs.YthdenkkllpkplaaGreat.Shapes Go.Proofs.YthdenkkllpkplaaGreat.Word Go.Proofs.YthdenkkllpkplaaGreat.FFam Go.Proofs.YthdenkkllpkplaaGreat.Grown Go.Proofs.YthdenkkllpkplaaGreat.Fn Go.Proofs.YthdenkkllpkplaaGreat.Pa Go.Proofs.YthdenkkllpkplaaGreat.Fi
set_option linter.unusedVariables false
set_option linter.unusedSimpArgs false
set_option maxRecDepth 100000 in
set_option maxHeartbeats 16000000 in
theorem law_calls (w : World) (l : List Opn) (v : Value) (h : RdO w.heap.size w v l) (c : List Tst) (vc : Value) (hc : RdL testE 3 w.heap.size w vc c) (t : Tst) (ht : t.name.size ≤ maxLen ∧ t.value.size ≤ maxLen ∧ (Lit.int .i64 t.kind).wf = true) (ch : Bool) (hcz : c.length * 40 ≤ reachBytes) :
    Calls Tryz.prog 16 #[v, vc, .agg #[.int .i64 t.kind, .string t.name, .string t.value], .bool ch] w fun e w' => e = .returned (.bool true) ∧ Below w.heap.size w w' := by
  obtain ⟨w0, hw0⟩ : ∃ w0, w.alloc (.cells (tsC t) 102) = w0 := ⟨_, rfl⟩
  have hb0 : Below w.heap.size w w0 := by rw [← hw0]; exact (Below.refl _ _).alloc (Nat.le_refl _) _
  have q0 : w0.heap[w.heap.size]? = some (.cells (tsC t) 102 (0, 0)) := by rw [← hw0]; exact World.alloc_heap_new w _
  have hbx : w.heap.size < w0.heap.size := lt_heap q0
  have hO := fun w' (hb : Below w.heap.size w w') => (h.below opE_keeps (w' := w') hb (Nat.le_refl _)).mono opE_keeps hb.size
  have hrc := fun w' (hb : Below w0.heap.size w0 w') => (hc.below testE_keeps (w' := w') (bthen hb0 hb) (Nat.le_refl _)).mono testE_keeps (bthen hb0 hb).size
  have hbox := fun w' (hb : Below w0.heap.size w0 w') => (hb.block _ hbx).trans q0
  have hbn := Fi.bounded_calls w0 v l (hO w0 hb0)
  have hgr := fun w' (hb : Below w0.heap.size w0 w') => Fi.grown_calls w' v l (hO w' (bthen hb0 hb))
  unfold Fi.GrownPost at hgr
  obtain ⟨w1, hw1⟩ : ∃ w1, (w0.alloc (.cells #[vc, .bool false] 82)).alloc (.cells #[.slice (some ⟨w0.heap.size, 0, none⟩) 1 1] 77) = w1 := ⟨_, rfl⟩
  obtain ⟨hsel1, hb1, hs1⟩ := lit_one hw1 (hrc w0 (Below.refl _ _))
  have hfw := few_calls w1 _ _ hsel1
  obtain ⟨x0, x1, x2⟩ := ts_cells (hbox w0 (Below.refl _ _))
  obtain ⟨y0, y1, y2⟩ := ts_cells (hbox w1 hb1)
  obtain ⟨A0, c0, rfl, hl0, hc0, _⟩ := h.form
  obtain ⟨Ac, cc, rfl, hlc, hcc, _⟩ := hc.form
  simp only [maxLen] at hc0 hcc
  have htm := ht
  simp only [maxLen] at htm
  obtain ⟨ht1, ht2, _⟩ := htm
  have HW0 := Lib.hid hw0; have HW1 := Lib.hid hw1; have HB0 := Lib.hid hb0; have HB1 := Lib.hid hb1; have Hgr := Lib.hid hgr; have Hrc := Lib.hid hrc; have Hbox := Lib.hid hbox; have Ht := Lib.hid ht; have Hbx := Lib.hid hbx; have Hs1 := Lib.hid hs1
  clear hw0 hw1 hb0 hb1 hgr hrc hbox ht hbx hO q0 hs1 h hc hsel1
  cases hB : bndO l with
  | false =>
    rw [hB] at hbn
    have Hbn := Lib.hid hbn
    clear hbn hfw hB
    go_enter Tryz.func16, Tryz.ntmps16
    go_upto_region 1 with fail
    rw [HW0.out]
    go_wp2_with (first | (go_at_call 32; (with_reducible refine (Hbn.out).mono ?_); rintro e w5 ⟨rfl, rfl⟩) | (go_at_call 34; (with_reducible refine (Fi.shown_calls _).mono ?_); rintro e w6 ⟨rfl, hb6⟩; have Hb6 := Lib.hid hb6; clear hb6))
    go_ret
    exact ⟨rfl, bthen HB0.out Hb6.out⟩
  | true =>
    rw [hB] at hbn
    have Hbn := Lib.hid hbn
    cases hF : fewB [[{ c := c }]] with
    | false =>
      rw [hF] at hfw
      have Hfw := Lib.hid hfw
      clear hbn hfw hB hF
      go_enter Tryz.func16, Tryz.ntmps16
      go_upto_region 1 with fail
      rw [HW0.out]
      go_wp2_with (first | (go_at_call 32; (with_reducible refine (Hbn.out).mono ?_); rintro e w5 ⟨rfl, rfl⟩) | (go_at_call 33; rw [HW1.out]; (with_reducible refine (Hfw.out).mono ?_); rintro e w5 ⟨rfl, rfl⟩) | (go_at_call 34; (with_reducible refine (Fi.shown_calls _).mono ?_); rintro e w6 ⟨rfl, hb6⟩; have Hb6 := Lib.hid hb6; clear hb6))
      go_ret
      exact ⟨rfl, bthen HB0.out (bthen HB1.out Hb6.out)⟩
    | true =>
      rw [hF] at hfw
      have Hfw := Lib.hid hfw
      by_cases hn : 100 < t.name.size
      · have hn1 : 100 < (t.name.size : Int) := by omega
        clear hbn hfw hB hF
        go_enter Tryz.func16, Tryz.ntmps16
        go_upto_region 1 with fail
        rw [HW0.out]
        go_wp2_with (first | (go_at_call 32; (with_reducible refine (Hbn.out).mono ?_); rintro e w5 ⟨rfl, rfl⟩) | (go_at_call 33; rw [HW1.out]; (with_reducible refine (Hfw.out).mono ?_); rintro e w5 ⟨rfl, rfl⟩) | (go_at_call 34; (with_reducible refine (Fi.shown_calls _).mono ?_); rintro e w6 ⟨rfl, hb6⟩; have Hb6 := Lib.hid hb6; clear hb6))
        go_ret
        exact ⟨rfl, bthen HB0.out (bthen HB1.out Hb6.out)⟩
      · have hn1 : ¬ 100 < (t.name.size : Int) := by omega
        by_cases hv : 100 < t.value.size
        · have hv1 : 100 < (t.value.size : Int) := by omega
          clear hbn hfw hB hF
          go_enter Tryz.func16, Tryz.ntmps16
          go_upto_region 1 with fail
          rw [HW0.out]
          go_wp2_with (first | (go_at_call 32; (with_reducible refine (Hbn.out).mono ?_); rintro e w5 ⟨rfl, rfl⟩) | (go_at_call 33; rw [HW1.out]; (with_reducible refine (Hfw.out).mono ?_); rintro e w5 ⟨rfl, rfl⟩) | (go_at_call 34; (with_reducible refine (Fi.shown_calls _).mono ?_); rintro e w6 ⟨rfl, hb6⟩; have Hb6 := Lib.hid hb6; clear hb6))
          go_ret
          exact ⟨rfl, bthen HB0.out (bthen HB1.out Hb6.out)⟩
        · have hv1 : ¬ 100 < (t.value.size : Int) := by omega
          have hm := grow_may l
          have hsm := Fi.grow_sm hB
          obtain ⟨hsc, hcl⟩ := smC_few hF hcz
          obtain ⟨f, hf⟩ : ∃ f, f = growF l := ⟨_, rfl⟩
          rw [← hf] at hm hsm
          have hgr' := fun w' (hb : Below w1.heap.size w1 w') => Hgr.out w' (bthen HB1.out hb)
          simp only [← hf] at hgr'
          have hlen := may_len hm
          have Hg := Lib.hid hgr'; have Hm := Lib.hid hm; have Hsm := Lib.hid hsm; have Hsc := Lib.hid hsc
          clear hbn hfw hgr' Hgr hm hsm hsc hB hF hf
          go_enter Tryz.func16, Tryz.ntmps16
          go_upto_region 1 with fail
          rw [HW0.out]
          go_upto_region 5 with (first | (go_at_call 32; (with_reducible refine (Hbn.out).mono ?_); rintro e w5 ⟨rfl, rfl⟩) | (go_at_call 33; rw [HW1.out]; (with_reducible refine (Hfw.out).mono ?_); rintro e w5 ⟨rfl, rfl⟩) | (go_at_call 34; (with_reducible refine (Fi.shown_calls _).mono ?_); rintro e w6 ⟨rfl, hb6⟩; have Hb6 := Lib.hid hb6; clear hb6) | (go_at_call 35; (with_reducible refine (Hg.out _ Hb6.out).mono ?_); rintro e w7 ⟨v7, rfl, hr7, hb7⟩; have Hr7 := Lib.hid hr7; have Hb7 := Lib.hid (bthen Hb6.out hb7); clear hr7 hb7))
          obtain ⟨bn, on, c7, rfl, hl7, hc7⟩ := slice_some Hr7.out (by omega)
          simp only [maxLen] at hc7
          obtain ⟨w8, hw8⟩ : ∃ w8, (w7.alloc (.cells #[.slice Ac c.length cc, .bool false] 82)).alloc (.cells #[.slice (some ⟨w7.heap.size, 0, none⟩) 1 1] 77) = w8 := ⟨_, rfl⟩
          obtain ⟨hsel8, hb8, hs8⟩ := lit_one hw8 (Hrc.out w7 (bthen HB1.out Hb7.out))
          rw [hw8]

          have hb08 : Below w0.heap.size w0 w8 := bthen HB1.out (bthen Hb7.out hb8)
          obtain ⟨z0, z1, z2⟩ := ts_cells (Hbox.out w8 hb08)
          obtain ⟨i1, hi1, hy0, hy1, hy2⟩ := info_parts Fi.info_test
          have hAc : Ac = none → c.length = 0 := fun e => by
            have h1 := Hrc.out w8 hb08
            rw [e] at h1
            rw [PlA.rd_none h1]
            rfl
          have hAd : ∀ ad, Ac = some ad → ∀ w', Below w0.heap.size w0 w' → ∀ j u, (tsL c)[j]? = some u → w'.cell? (ad.add j) = some u := fun ad e w' hb => by
            have h1 := Hrc.out w' hb
            rw [e] at h1
            exact ts_cellsL h1
          have hcT : ∀ x ∈ c ++ [t], x.name.size ≤ maxLen ∧ x.value.size ≤ maxLen ∧ (Lit.int .i64 x.kind).wf = true := fun x hx => by
            rw [List.mem_append, List.mem_singleton] at hx
            rcases hx with hx | rfl
            · exact ts_sm (Hrc.out w8 hb08) x hx
            · exact Ht.out
          have HB08 := Lib.hid hb08; have HAc := Lib.hid hAc; have HAd := Lib.hid hAd; have HcT := Lib.hid hcT; have Hsel8 := Lib.hid hsel8; have HB8b := Lib.hid hb8
          have HB8 := Lib.hid (bthen (Below.refl w7.heap.size w7) hb8)
          clear hb08 hAc hAd hcT hsel8 hb8 hw8 hs8
          go_cut [11] from 49 (fun v wx => ∃ g9 : Nat, v = .slice (some ⟨g9, 0, none⟩) 1 1 ∧ Hid (RdSel wx.heap.size wx (.slice (some ⟨g9, 0, none⟩) 1 1) [[{ c := c ++ [t] }]]) ∧ Hid (Below w8.heap.size w8 wx))
          case first =>
            refine wp_region_held_drew (S := (fun w' => w'.cell? ⟨w.heap.size, 0, none⟩ = some (.int .i64 t.kind) ∧ w'.cell? ⟨w.heap.size, 1, none⟩ = some (.string t.name) ∧ w'.cell? ⟨w.heap.size, 2, none⟩ = some (.string t.value))) (by kernel_rfl) ⟨z0, z1, z2⟩ (fun hHeld => ?_)
            obtain ⟨wd, hwd⟩ : ∃ x, w8.drew = x := ⟨_, rfl⟩
            have HBwd : Hid (Below w8.heap.size w8 wd) := Lib.hid (by rw [← hwd]; exact (Below.refl _ _).drew)
            rw [hwd] at hHeld ⊢
            clear hwd
            refine' wpAnyH_take (i := 1) (v := ?v1) rfl (by kernel_rfl) (by kernel_rfl) (by kernel_rfl) (fun _ _ _ h => h) (Or.inl ⟨by kernel_rfl, ?hy1⟩) (by assumption) ?rest1
            case hy1 => (intro w hSw; (try dsimp only at hSw); go_simp; (try with_reducible rfl))
            (try simp only [Act.put, List.getElem_toArray, List.getElem_cons_succ, List.getElem_cons_zero, List.setIfInBounds_toArray, List.set_cons_zero, List.set_cons_succ])
            refine' wpAnyH_take (i := 3) (v := ?v3) rfl (by kernel_rfl) (by kernel_rfl) (by kernel_rfl) (fun _ _ _ h => h) (Or.inl ⟨by kernel_rfl, ?hy3⟩) (by assumption) ?rest3
            case hy3 => (intro w hSw; (try dsimp only at hSw); go_simp; (try with_reducible rfl))
            (try simp only [Act.put, List.getElem_toArray, List.getElem_cons_succ, List.getElem_cons_zero, List.setIfInBounds_toArray, List.set_cons_zero, List.set_cons_succ])
            refine wpAnyH_ready (rs := [0, 4]) (by kernel_rfl) (by simp) ?_
            refine AllReadyH.cons rfl (fun K hK => ?_) (AllReadyH.cons rfl (fun K hK => ?_) AllReadyH.nil)
            · go_simp
              refine hK.out _ _ (ts_cells (Hbox.out _ (bthen HB08.out (HBwd.out.alloc HBwd.out.size _)))) (fun hHeld => ?_)
              clear hK K
              (try simp only [Act.put, List.getElem_toArray, List.getElem_cons_succ, List.getElem_cons_zero, List.setIfInBounds_toArray, List.set_cons_zero, List.set_cons_succ])
              obtain ⟨wa, hwa⟩ : ∃ x, wd.alloc (Obj.cells #[] 102) = x := ⟨_, rfl⟩
              have HBwa : Hid (Below w8.heap.size w8 wa) := Lib.hid (by rw [← hwa]; exact HBwd.out.alloc HBwd.out.size _)
              have hzwa : Hid (wa.heap.size = wd.heap.size + 1) := Lib.hid (by rw [← hwa]; simp)
              have hown0 : wa.ownsRow w8.heap.size 102 3 (.slice (some ⟨wd.heap.size, 0, none⟩) 0 0) 0 [] := by rw [← hwa]; exact World.ownsRow_made wd #[] 0 HBwd.out.size (by simp [maxLen]) (by simp)
              rw [hwa] at hHeld ⊢
              refine wpAnyH_ready (rs := [2, 4]) (by kernel_rfl) (by simp) ?_
              refine AllReadyH.cons rfl (fun K hK => ?_) (AllReadyH.cons rfl (fun K hK => ?_) AllReadyH.nil)
              · refine if_want (by kernel_rfl) ?_
                refine oper_any (.tmp 49) (.tmp 50) 80 rfl w8.heap.size 102 i1 _ 3 40 Tryz.underlying80 hi1 hy0 hy1 hy2 rfl (by decide) (.slice (some ⟨wd.heap.size, 0, none⟩) 0 0) 0 [] rfl hown0 Ac c.length cc (tsL c) rfl (fun e => HAc.out e) (tsL_length c) (fun ad hA => HAd.out ad hA _ (bthen HB08.out HBwa.out)) (tsL_one c) (by simp only [maxLen]; omega) (by omega) HBwa.out.size ?_
                intro v2 wb hown2 hgrow2 hat2
                rw [Nat.zero_add, List.nil_append] at hown2
                obtain ⟨A2, c2, rfl⟩ := LShown.slice_of hown2
                have HBwb : Hid (Below w8.heap.size w8 wb) := Lib.hid (grown_belowN HBwa.out hgrow2 hown0 (Nat.le_refl _))
                refine hK.out _ _ (ts_cells (Hbox.out _ (bthen HB08.out HBwb.out))) (fun hHeld => ?_)
                clear hK K
                (try simp only [Act.put, List.getElem_toArray, List.getElem_cons_succ, List.getElem_cons_zero, List.setIfInBounds_toArray, List.set_cons_zero, List.set_cons_succ])
                refine wpAnyH_ready (rs := [4]) (by kernel_rfl) (by simp) ?_
                refine AllReadyH.cons rfl (fun K hK => ?_) AllReadyH.nil
                go_simp
                refine hK.out _ _ (ts_cells (Hbox.out _ (bthen HB08.out (HBwb.out.alloc HBwb.out.size _)))) (fun hHeld => ?_)
                clear hK K
                (try simp only [Act.put, List.getElem_toArray, List.getElem_cons_succ, List.getElem_cons_zero, List.setIfInBounds_toArray, List.set_cons_zero, List.set_cons_succ])
                obtain ⟨wc, hwc⟩ : ∃ x, wb.alloc (Obj.cells #[.int .i64 t.kind, .string t.name, .string t.value] 102) = x := ⟨_, rfl⟩
                have HBwc : Hid (Below w8.heap.size w8 wc) := Lib.hid (by rw [← hwc]; exact HBwb.out.alloc HBwb.out.size _)
                have hzwc : Hid (wc.heap.size = wb.heap.size + 1) := Lib.hid (by rw [← hwc]; simp)
                have hblk : wc.heap[wb.heap.size]? = some (.cells (tsC t) 102 (0, 0)) := by rw [← hwc]; exact World.alloc_heap_new wb _
                replace hown2 := (show _ from by rw [← hwc]; exact hown2.alloc _ : wc.ownsRow _ _ _ _ _ _)
                rw [hwc] at hHeld ⊢
                refine wpAnyH_ready (rs := [5]) (by kernel_rfl) (by simp) ?_
                refine AllReadyH.cons rfl (fun K hK => ?_) AllReadyH.nil
                refine if_want (by kernel_rfl) ?_
                refine oper_any (.tmp 51) (.tmp 53) 80 rfl w8.heap.size 102 i1 _ 3 40 Tryz.underlying80 hi1 hy0 hy1 hy2 rfl (by decide) (.slice A2 c.length c2) c.length (tsL c) rfl hown2 (some ⟨wb.heap.size, 0, none⟩) 1 1 [.int .i64 t.kind, .string t.name, .string t.value] rfl (fun e => by cases e) rfl (fun ad hA => by injection hA with hA; subst hA; exact World.news_of_block (cs := tsC t) hblk) (by simp [Value.oneCell']) (by simp only [maxLen]; omega) (by omega) HBwc.out.size ?_
                intro v5 we hown5 hgrow5 hat5
                rw [← tsL_snoc] at hown5
                obtain ⟨A5, c5, rfl⟩ := LShown.slice_of hown5
                have HBwe : Hid (Below w8.heap.size w8 we) := Lib.hid (grown_belowN HBwc.out hgrow5 hown2 (Nat.le_refl _))
                refine hK.out _ _ (ts_cells (Hbox.out _ (bthen HB08.out HBwe.out))) (fun hHeld => ?_)
                clear hK K
                (try simp only [Act.put, List.getElem_toArray, List.getElem_cons_succ, List.getElem_cons_zero, List.setIfInBounds_toArray, List.set_cons_zero, List.set_cons_succ])
                refine' wpAnyH_take (i := 6) (v := ?v6a) rfl (by kernel_rfl) (by kernel_rfl) (by kernel_rfl) (fun _ _ _ h => h) (Or.inl ⟨by kernel_rfl, ?hy6a⟩) (by assumption) ?rest6a
                case hy6a => (intro w hSw; (try dsimp only at hSw); go_simp; (try with_reducible rfl))
                (try simp only [Act.put, List.getElem_toArray, List.getElem_cons_succ, List.getElem_cons_zero, List.setIfInBounds_toArray, List.set_cons_zero, List.set_cons_succ])
                refine wpAnyH_ready (rs := [7]) (by kernel_rfl) (by simp) ?_
                refine AllReadyH.cons rfl (fun K hK => ?_) AllReadyH.nil
                go_simp
                refine hK.out _ _ (ts_cells (Hbox.out _ (bthen HB08.out (HBwe.out.alloc HBwe.out.size _)))) (fun hHeld => ?_)
                clear hK K
                (try simp only [Act.put, List.getElem_toArray, List.getElem_cons_succ, List.getElem_cons_zero, List.setIfInBounds_toArray, List.set_cons_zero, List.set_cons_succ])
                refine wpAnyH_ready (rs := [8]) (by kernel_rfl) (by simp) ?_
                refine AllReadyH.cons rfl (fun K hK => ?_) AllReadyH.nil
                go_simp
                refine hK.out _ _ (ts_cells (Hbox.out _ (bthen HB08.out ((HBwe.out.alloc HBwe.out.size _).alloc (by have := HBwe.out.size; simp; omega) _)))) (fun hHeld => ?_)
                clear hK K
                (try simp only [Act.put, List.getElem_toArray, List.getElem_cons_succ, List.getElem_cons_zero, List.setIfInBounds_toArray, List.set_cons_zero, List.set_cons_succ])
                refine' wpAnyH_take (i := 9) (v := ?v9a) rfl (by kernel_rfl) (by kernel_rfl) (by kernel_rfl) (fun _ _ _ h => h) (Or.inl ⟨by kernel_rfl, ?hy9a⟩) (by assumption) ?rest9a
                case hy9a => (intro w hSw; (try dsimp only at hSw); go_simp; (try with_reducible rfl))
                (try simp only [Act.put, List.getElem_toArray, List.getElem_cons_succ, List.getElem_cons_zero, List.setIfInBounds_toArray, List.set_cons_zero, List.set_cons_succ])
                refine wpAnyH_done (by kernel_rfl) ?_ _
                obtain ⟨w9, hw9⟩ : ∃ x, (we.alloc (Obj.cells #[.slice A5 (c.length + 1) c5, .bool false] 82)).alloc (.cells #[.slice (some ⟨we.heap.size, 0, none⟩) 1 1] 77) = x := ⟨_, rfl⟩
                obtain ⟨hsel9, hb9, hs9⟩ := lit_one hw9 (ts_own hown5 (by simp) HcT.out)
                rw [hw9] at hHeld ⊢
                obtain ⟨g9, hg9⟩ : ∃ g, g = we.heap.size + 1 := ⟨_, rfl⟩
                rw [← hg9] at hsel9 ⊢
                have Hsel9 := Lib.hid hsel9; have HB9 := Lib.hid (bthen HBwe.out hb9); have Hbox9 := Lib.hid hHeld
                clear hsel9 hb9 hs9 hw9 hg9 hown5 hgrow5 hat5 hown2 hgrow2 hat2 hown0 hblk hHeld
                go_wp2_with fail
                go_meet
                exact ⟨g9, rfl, Hsel9, HB9⟩
              · go_simp
                refine hK.out _ _ (ts_cells (Hbox.out _ (bthen HB08.out (HBwa.out.alloc HBwa.out.size _)))) (fun hHeld => ?_)
                clear hK K
                (try simp only [Act.put, List.getElem_toArray, List.getElem_cons_succ, List.getElem_cons_zero, List.setIfInBounds_toArray, List.set_cons_zero, List.set_cons_succ])
                obtain ⟨wb, hwb⟩ : ∃ x, wa.alloc (Obj.cells #[.int .i64 t.kind, .string t.name, .string t.value] 102) = x := ⟨_, rfl⟩
                have HBwb : Hid (Below w8.heap.size w8 wb) := Lib.hid (by rw [← hwb]; exact HBwa.out.alloc HBwa.out.size _)
                have hzwb : Hid (wb.heap.size = wa.heap.size + 1) := Lib.hid (by rw [← hwb]; simp)
                have hblk : wb.heap[wa.heap.size]? = some (.cells (tsC t) 102 (0, 0)) := by rw [← hwb]; exact World.alloc_heap_new wa _
                replace hown0 := (show _ from by rw [← hwb]; exact hown0.alloc _ : wb.ownsRow _ _ _ _ _ _)
                rw [hwb] at hHeld ⊢
                refine wpAnyH_ready (rs := [2]) (by kernel_rfl) (by simp) ?_
                refine AllReadyH.cons rfl (fun K hK => ?_) AllReadyH.nil
                refine if_want (by kernel_rfl) ?_
                refine oper_any (.tmp 49) (.tmp 50) 80 rfl w8.heap.size 102 i1 _ 3 40 Tryz.underlying80 hi1 hy0 hy1 hy2 rfl (by decide) (.slice (some ⟨wd.heap.size, 0, none⟩) 0 0) 0 [] rfl hown0 Ac c.length cc (tsL c) rfl (fun e => HAc.out e) (tsL_length c) (fun ad hA => HAd.out ad hA _ (bthen HB08.out HBwb.out)) (tsL_one c) (by simp only [maxLen]; omega) (by omega) HBwb.out.size ?_
                intro v2 wc hown2 hgrow2 hat2
                rw [Nat.zero_add, List.nil_append] at hown2
                obtain ⟨A2, c2, rfl⟩ := LShown.slice_of hown2
                have HBwc : Hid (Below w8.heap.size w8 wc) := Lib.hid (grown_belowN HBwb.out hgrow2 hown0 (Nat.le_refl _))
                replace hblk := (hgrow2.block wa.heap.size (lt_heap hblk) (fun e => by injection e with e; have e2 : wa.heap.size = wd.heap.size := e; have := hzwa.out; omega)).trans hblk
                refine hK.out _ _ (ts_cells (Hbox.out _ (bthen HB08.out HBwc.out))) (fun hHeld => ?_)
                clear hK K
                (try simp only [Act.put, List.getElem_toArray, List.getElem_cons_succ, List.getElem_cons_zero, List.setIfInBounds_toArray, List.set_cons_zero, List.set_cons_succ])
                refine wpAnyH_ready (rs := [5]) (by kernel_rfl) (by simp) ?_
                refine AllReadyH.cons rfl (fun K hK => ?_) AllReadyH.nil
                refine if_want (by kernel_rfl) ?_
                refine oper_any (.tmp 51) (.tmp 53) 80 rfl w8.heap.size 102 i1 _ 3 40 Tryz.underlying80 hi1 hy0 hy1 hy2 rfl (by decide) (.slice A2 c.length c2) c.length (tsL c) rfl hown2 (some ⟨wa.heap.size, 0, none⟩) 1 1 [.int .i64 t.kind, .string t.name, .string t.value] rfl (fun e => by cases e) rfl (fun ad hA => by injection hA with hA; subst hA; exact World.news_of_block (cs := tsC t) hblk) (by simp [Value.oneCell']) (by simp only [maxLen]; omega) (by omega) HBwc.out.size ?_
                intro v5 we hown5 hgrow5 hat5
                rw [← tsL_snoc] at hown5
                obtain ⟨A5, c5, rfl⟩ := LShown.slice_of hown5
                have HBwe : Hid (Below w8.heap.size w8 we) := Lib.hid (grown_belowN HBwc.out hgrow5 hown2 (Nat.le_refl _))
                refine hK.out _ _ (ts_cells (Hbox.out _ (bthen HB08.out HBwe.out))) (fun hHeld => ?_)
                clear hK K
                (try simp only [Act.put, List.getElem_toArray, List.getElem_cons_succ, List.getElem_cons_zero, List.setIfInBounds_toArray, List.set_cons_zero, List.set_cons_succ])
                refine' wpAnyH_take (i := 6) (v := ?v6b) rfl (by kernel_rfl) (by kernel_rfl) (by kernel_rfl) (fun _ _ _ h => h) (Or.inl ⟨by kernel_rfl, ?hy6b⟩) (by assumption) ?rest6b
                case hy6b => (intro w hSw; (try dsimp only at hSw); go_simp; (try with_reducible rfl))
                (try simp only [Act.put, List.getElem_toArray, List.getElem_cons_succ, List.getElem_cons_zero, List.setIfInBounds_toArray, List.set_cons_zero, List.set_cons_succ])
                refine wpAnyH_ready (rs := [7]) (by kernel_rfl) (by simp) ?_
                refine AllReadyH.cons rfl (fun K hK => ?_) AllReadyH.nil
                go_simp
                refine hK.out _ _ (ts_cells (Hbox.out _ (bthen HB08.out (HBwe.out.alloc HBwe.out.size _)))) (fun hHeld => ?_)
                clear hK K
                (try simp only [Act.put, List.getElem_toArray, List.getElem_cons_succ, List.getElem_cons_zero, List.setIfInBounds_toArray, List.set_cons_zero, List.set_cons_succ])
                refine wpAnyH_ready (rs := [8]) (by kernel_rfl) (by simp) ?_
                refine AllReadyH.cons rfl (fun K hK => ?_) AllReadyH.nil
                go_simp
                refine hK.out _ _ (ts_cells (Hbox.out _ (bthen HB08.out ((HBwe.out.alloc HBwe.out.size _).alloc (by have := HBwe.out.size; simp; omega) _)))) (fun hHeld => ?_)
                clear hK K
                (try simp only [Act.put, List.getElem_toArray, List.getElem_cons_succ, List.getElem_cons_zero, List.setIfInBounds_toArray, List.set_cons_zero, List.set_cons_succ])
                refine' wpAnyH_take (i := 9) (v := ?v9b) rfl (by kernel_rfl) (by kernel_rfl) (by kernel_rfl) (fun _ _ _ h => h) (Or.inl ⟨by kernel_rfl, ?hy9b⟩) (by assumption) ?rest9b
                case hy9b => (intro w hSw; (try dsimp only at hSw); go_simp; (try with_reducible rfl))
                (try simp only [Act.put, List.getElem_toArray, List.getElem_cons_succ, List.getElem_cons_zero, List.setIfInBounds_toArray, List.set_cons_zero, List.set_cons_succ])
                refine wpAnyH_done (by kernel_rfl) ?_ _
                obtain ⟨w9, hw9⟩ : ∃ x, (we.alloc (Obj.cells #[.slice A5 (c.length + 1) c5, .bool false] 82)).alloc (.cells #[.slice (some ⟨we.heap.size, 0, none⟩) 1 1] 77) = x := ⟨_, rfl⟩
                obtain ⟨hsel9, hb9, hs9⟩ := lit_one hw9 (ts_own hown5 (by simp) HcT.out)
                rw [hw9] at hHeld ⊢
                obtain ⟨g9, hg9⟩ : ∃ g, g = we.heap.size + 1 := ⟨_, rfl⟩
                rw [← hg9] at hsel9 ⊢
                have Hsel9 := Lib.hid hsel9; have HB9 := Lib.hid (bthen HBwe.out hb9); have Hbox9 := Lib.hid hHeld
                clear hsel9 hb9 hs9 hw9 hg9 hown5 hgrow5 hat5 hown2 hgrow2 hat2 hown0 hblk hHeld
                go_wp2_with fail
                go_meet
                exact ⟨g9, rfl, Hsel9, HB9⟩
            · go_simp
              refine hK.out _ _ (ts_cells (Hbox.out _ (bthen HB08.out (HBwd.out.alloc HBwd.out.size _)))) (fun hHeld => ?_)
              clear hK K
              (try simp only [Act.put, List.getElem_toArray, List.getElem_cons_succ, List.getElem_cons_zero, List.setIfInBounds_toArray, List.set_cons_zero, List.set_cons_succ])
              obtain ⟨wa, hwa⟩ : ∃ x, wd.alloc (Obj.cells #[.int .i64 t.kind, .string t.name, .string t.value] 102) = x := ⟨_, rfl⟩
              have HBwa : Hid (Below w8.heap.size w8 wa) := Lib.hid (by rw [← hwa]; exact HBwd.out.alloc HBwd.out.size _)
              have hzwa : Hid (wa.heap.size = wd.heap.size + 1) := Lib.hid (by rw [← hwa]; simp)
              have hblk : wa.heap[wd.heap.size]? = some (.cells (tsC t) 102 (0, 0)) := by rw [← hwa]; exact World.alloc_heap_new wd _
              rw [hwa] at hHeld ⊢
              refine wpAnyH_ready (rs := [0]) (by kernel_rfl) (by simp) ?_
              refine AllReadyH.cons rfl (fun K hK => ?_) AllReadyH.nil
              go_simp
              refine hK.out _ _ (ts_cells (Hbox.out _ (bthen HB08.out (HBwa.out.alloc HBwa.out.size _)))) (fun hHeld => ?_)
              clear hK K
              (try simp only [Act.put, List.getElem_toArray, List.getElem_cons_succ, List.getElem_cons_zero, List.setIfInBounds_toArray, List.set_cons_zero, List.set_cons_succ])
              obtain ⟨wb, hwb⟩ : ∃ x, wa.alloc (Obj.cells #[] 102) = x := ⟨_, rfl⟩
              have HBwb : Hid (Below w8.heap.size w8 wb) := Lib.hid (by rw [← hwb]; exact HBwa.out.alloc HBwa.out.size _)
              have hzwb : Hid (wb.heap.size = wa.heap.size + 1) := Lib.hid (by rw [← hwb]; simp)
              have hown0 : wb.ownsRow w8.heap.size 102 3 (.slice (some ⟨wa.heap.size, 0, none⟩) 0 0) 0 [] := by rw [← hwb]; exact World.ownsRow_made wa #[] 0 HBwa.out.size (by simp [maxLen]) (by simp)
              replace hblk : wb.heap[wd.heap.size]? = some (Obj.cells (tsC t) 102 (0, 0)) := by rw [← hwb]; exact heap_old hblk
              rw [hwb] at hHeld ⊢
              refine wpAnyH_ready (rs := [2]) (by kernel_rfl) (by simp) ?_
              refine AllReadyH.cons rfl (fun K hK => ?_) AllReadyH.nil
              refine if_want (by kernel_rfl) ?_
              refine oper_any (.tmp 49) (.tmp 50) 80 rfl w8.heap.size 102 i1 _ 3 40 Tryz.underlying80 hi1 hy0 hy1 hy2 rfl (by decide) (.slice (some ⟨wa.heap.size, 0, none⟩) 0 0) 0 [] rfl hown0 Ac c.length cc (tsL c) rfl (fun e => HAc.out e) (tsL_length c) (fun ad hA => HAd.out ad hA _ (bthen HB08.out HBwb.out)) (tsL_one c) (by simp only [maxLen]; omega) (by omega) HBwb.out.size ?_
              intro v2 wc hown2 hgrow2 hat2
              rw [Nat.zero_add, List.nil_append] at hown2
              obtain ⟨A2, c2, rfl⟩ := LShown.slice_of hown2
              have HBwc : Hid (Below w8.heap.size w8 wc) := Lib.hid (grown_belowN HBwb.out hgrow2 hown0 (Nat.le_refl _))
              replace hblk := (hgrow2.block wd.heap.size (lt_heap hblk) (fun e => by injection e with e; have e2 : wd.heap.size = wa.heap.size := e; have := hzwa.out; omega)).trans hblk
              refine hK.out _ _ (ts_cells (Hbox.out _ (bthen HB08.out HBwc.out))) (fun hHeld => ?_)
              clear hK K
              (try simp only [Act.put, List.getElem_toArray, List.getElem_cons_succ, List.getElem_cons_zero, List.setIfInBounds_toArray, List.set_cons_zero, List.set_cons_succ])
              refine wpAnyH_ready (rs := [5]) (by kernel_rfl) (by simp) ?_
              refine AllReadyH.cons rfl (fun K hK => ?_) AllReadyH.nil
              refine if_want (by kernel_rfl) ?_
              refine oper_any (.tmp 51) (.tmp 53) 80 rfl w8.heap.size 102 i1 _ 3 40 Tryz.underlying80 hi1 hy0 hy1 hy2 rfl (by decide) (.slice A2 c.length c2) c.length (tsL c) rfl hown2 (some ⟨wd.heap.size, 0, none⟩) 1 1 [.int .i64 t.kind, .string t.name, .string t.value] rfl (fun e => by cases e) rfl (fun ad hA => by injection hA with hA; subst hA; exact World.news_of_block (cs := tsC t) hblk) (by simp [Value.oneCell']) (by simp only [maxLen]; omega) (by omega) HBwc.out.size ?_
              intro v5 we hown5 hgrow5 hat5
              rw [← tsL_snoc] at hown5
              obtain ⟨A5, c5, rfl⟩ := LShown.slice_of hown5
              have HBwe : Hid (Below w8.heap.size w8 we) := Lib.hid (grown_belowN HBwc.out hgrow5 hown2 (Nat.le_refl _))
              refine hK.out _ _ (ts_cells (Hbox.out _ (bthen HB08.out HBwe.out))) (fun hHeld => ?_)
              clear hK K
              (try simp only [Act.put, List.getElem_toArray, List.getElem_cons_succ, List.getElem_cons_zero, List.setIfInBounds_toArray, List.set_cons_zero, List.set_cons_succ])
              refine' wpAnyH_take (i := 6) (v := ?v6c) rfl (by kernel_rfl) (by kernel_rfl) (by kernel_rfl) (fun _ _ _ h => h) (Or.inl ⟨by kernel_rfl, ?hy6c⟩) (by assumption) ?rest6c
              case hy6c => (intro w hSw; (try dsimp only at hSw); go_simp; (try with_reducible rfl))
              (try simp only [Act.put, List.getElem_toArray, List.getElem_cons_succ, List.getElem_cons_zero, List.setIfInBounds_toArray, List.set_cons_zero, List.set_cons_succ])
              refine wpAnyH_ready (rs := [7]) (by kernel_rfl) (by simp) ?_
              refine AllReadyH.cons rfl (fun K hK => ?_) AllReadyH.nil
              go_simp
              refine hK.out _ _ (ts_cells (Hbox.out _ (bthen HB08.out (HBwe.out.alloc HBwe.out.size _)))) (fun hHeld => ?_)
              clear hK K
              (try simp only [Act.put, List.getElem_toArray, List.getElem_cons_succ, List.getElem_cons_zero, List.setIfInBounds_toArray, List.set_cons_zero, List.set_cons_succ])
              refine wpAnyH_ready (rs := [8]) (by kernel_rfl) (by simp) ?_
              refine AllReadyH.cons rfl (fun K hK => ?_) AllReadyH.nil
              go_simp
              refine hK.out _ _ (ts_cells (Hbox.out _ (bthen HB08.out ((HBwe.out.alloc HBwe.out.size _).alloc (by have := HBwe.out.size; simp; omega) _)))) (fun hHeld => ?_)
              clear hK K
              (try simp only [Act.put, List.getElem_toArray, List.getElem_cons_succ, List.getElem_cons_zero, List.setIfInBounds_toArray, List.set_cons_zero, List.set_cons_succ])
              refine' wpAnyH_take (i := 9) (v := ?v9c) rfl (by kernel_rfl) (by kernel_rfl) (by kernel_rfl) (fun _ _ _ h => h) (Or.inl ⟨by kernel_rfl, ?hy9c⟩) (by assumption) ?rest9c
              case hy9c => (intro w hSw; (try dsimp only at hSw); go_simp; (try with_reducible rfl))
              (try simp only [Act.put, List.getElem_toArray, List.getElem_cons_succ, List.getElem_cons_zero, List.setIfInBounds_toArray, List.set_cons_zero, List.set_cons_succ])
              refine wpAnyH_done (by kernel_rfl) ?_ _
              obtain ⟨w9, hw9⟩ : ∃ x, (we.alloc (Obj.cells #[.slice A5 (c.length + 1) c5, .bool false] 82)).alloc (.cells #[.slice (some ⟨we.heap.size, 0, none⟩) 1 1] 77) = x := ⟨_, rfl⟩
              obtain ⟨hsel9, hb9, hs9⟩ := lit_one hw9 (ts_own hown5 (by simp) HcT.out)
              rw [hw9] at hHeld ⊢
              obtain ⟨g9, hg9⟩ : ∃ g, g = we.heap.size + 1 := ⟨_, rfl⟩
              rw [← hg9] at hsel9 ⊢
              have Hsel9 := Lib.hid hsel9; have HB9 := Lib.hid (bthen HBwe.out hb9); have Hbox9 := Lib.hid hHeld
              clear hsel9 hb9 hs9 hw9 hg9 hown5 hgrow5 hat5 hown2 hgrow2 hat2 hown0 hblk hHeld
              go_wp2_with fail
              go_meet
              exact ⟨g9, rfl, Hsel9, HB9⟩
          case rest =>
            obtain ⟨g9, rfl, Hsel9, HB9⟩ := hcut
            obtain ⟨w9, rfl⟩ : ∃ x : World, x = wc := ⟨_, rfl⟩
            have Hbox9 := Lib.hid (ts_cells (Hbox.out w9 (bthen HB08.out HB9.out)))
            obtain ⟨d0, d1, d2⟩ := Hbox9.out
            go_upto_region 7 with fail
            obtain ⟨w11, hw11⟩ : ∃ x, ((w9.alloc (Obj.cells #[.int .i64 t.kind, .string t.name, .string t.value] 102)).alloc (Obj.cells #[.slice (some ⟨w9.heap.size, 0, none⟩) 1 1, .bool false, .slice Ac c.length cc, .bool ch] 82)).alloc (Obj.cells #[.slice (some ⟨w9.heap.size + 1, 0, none⟩) 2 2] 77) = x := ⟨_, rfl⟩
            have hb9a : Below w9.heap.size w9 (w9.alloc (Obj.cells #[.int .i64 t.kind, .string t.name, .string t.value] 102)) := (Below.refl _ _).alloc (Nat.le_refl _) _
            have hlit := lit_two (w' := w11) (w := w9.alloc (Obj.cells #[.int .i64 t.kind, .string t.name, .string t.value] 102)) (by rw [show (w9.alloc (Obj.cells #[.int .i64 t.kind, .string t.name, .string t.value] 102)).heap.size = w9.heap.size + 1 by simp]; exact hw11) (one_test (World.alloc_heap_new w9 _) Ht.out) (Hrc.out _ (bthen HB08.out (bthen HB9.out hb9a)))
            rw [show (w9.alloc (Obj.cells #[.int .i64 t.kind, .string t.name, .string t.value] 102)).heap.size = w9.heap.size + 1 by simp] at hlit
            obtain ⟨hsel11, hb11, _⟩ := hlit
            rw [hw11]
            obtain ⟨g11, hg11⟩ : ∃ g, g = w9.heap.size + 1 + 1 := ⟨_, rfl⟩
            rw [← hg11] at hsel11 ⊢
            have hb911 : Below w9.heap.size w9 w11 := hb9a.trans (hb11.mono (Nat.le_succ _))
            have Hb911 := Lib.hid hb911
            have HB11 := Lib.hid (bthen HB8.out (bthen HB9.out hb911))
            have HB911x := Lib.hid (bthen HB9.out hb911)
            have hup := fun w' (hb : Below w11.heap.size w11 w') => bthen HB11.out hb
            have hrd := fun w' (hb : Below w11.heap.size w11 w') => (Hr7.out.below nodeE_keeps (w' := w') (hup w' hb) (Nat.le_refl _)).mono nodeE_keeps (hup w' hb).size
            have hl8 := fun w' (hb : Below w11.heap.size w11 w') => (Hsel8.out.below rowE_keeps (w' := w') (bthen HB9.out (bthen Hb911.out hb)) (Nat.le_refl _)).mono rowE_keeps (bthen HB9.out (bthen Hb911.out hb)).size
            have hl9 := fun w' (hb : Below w11.heap.size w11 w') => (Hsel9.out.below rowE_keeps (w' := w') (bthen Hb911.out hb) (Nat.le_refl _)).mono rowE_keeps (bthen Hb911.out hb).size
            have hl11 := fun w' (hb : Below w11.heap.size w11 w') => (hsel11.below rowE_keeps (w' := w') hb (Nat.le_refl _)).mono rowE_keeps hb.size
            have hbx := fun w' (hb : Below w11.heap.size w11 w') => ts_cells (Hbox.out w' (bthen HB08.out (bthen HB9.out (bthen Hb911.out hb))))
            have hst : SmC [t] := fun x hx => by
              rw [List.mem_singleton] at hx
              subst hx
              omega
            have hsct : SmC (c ++ [t]) := fun x hx => by
              rw [List.mem_append] at hx
              exact hx.elim (Hsc.out x) (hst x)
            have hs1 : ∀ {d : List Tst}, SmC d → SmS [[{ c := d }]] := fun hd r hr x hx => by
              rw [List.mem_singleton] at hr
              subst hr
              rw [List.mem_singleton] at hx
              subst hx
              exact hd
            have hs2 : SmS [[{ c := [t] }, { c := c, child := ch }]] := fun r hr x hx => by
              rw [List.mem_singleton] at hr
              subst hr
              simp only [List.mem_cons, List.not_mem_nil, or_false] at hx
              rcases hx with rfl | rfl
              · exact hst
              · exact Hsc.out
            have hls := fun w' (hb : Below w11.heap.size w11 w') (i : Nat) => Is_calls w' _ f (hrd w' hb) Hm.out Hsm.out (i : Int) _ _ (hl8 w' hb) (hs1 Hsc.out)
            have hmr := fun w' (hb : Below w11.heap.size w11 w') (i : Nat) => Is_calls w' _ f (hrd w' hb) Hm.out Hsm.out (i : Int) _ _ (hl9 w' hb) (hs1 hsct)
            have hdp := fun w' (hb : Below w11.heap.size w11 w') (i : Nat) => Is_calls w' _ f (hrd w' hb) Hm.out Hsm.out (i : Int) _ _ (hl11 w' hb) hs2
            have Hls0 := Lib.hid hls; have Hmr0 := Lib.hid hmr; have Hdp0 := Lib.hid hdp; have Hbx0 := Lib.hid hbx; have Hrd := Lib.hid hrd; have Hst := Lib.hid hst
            clear hls hmr hdp hbx hrd hl8 hl9 hl11 hup hs1 hs2 hst hsct hsel11 hb11 hb911 hb9a hw11 hg11 d0 d1 d2 x0 x1 x2 y0 y1 y2 z0 z1 z2
            clear Hg HW0 HW1 Hrc HAc HAd HcT Hbox9
            go_wp2_with fail
            go_loopw [13] (fun i wr => ∃ k : Nat, k ≤ f.length ∧ i = .int .i64 k ∧ Hid (Below w11.heap.size w11 wr)) (fun i _ => f.length - (intOf i).toNat)
            case atStart => exact ⟨0, Nat.zero_le _, rfl, Lib.hid (Below.refl _ _)⟩
            case round =>
              obtain ⟨k, hk, rfl, hb⟩ := hrel
              by_cases hlt : k < f.length
              · obtain ⟨wo, rfl⟩ : ∃ wo : World, wo = wr := ⟨_, rfl⟩
                have Hb := Lib.hid hb.out
                clear hb
                have hlt0 : (k : Int) < (f.length : Int) := by omega
                have hk0 : (0 : Int) ≤ (k : Int) := by omega
                obtain ⟨va1, vk1, ⟨A13, n13, c13, rfl⟩, ⟨A14, n14, c14, rfl⟩, hc1, hf1⟩ := fits_at (Hrd.out wo Hb.out) Hsm.out hlt
                have hls := Hls0.out wo Hb.out k
                have hmr := fun w' (hx : Below wo.heap.size wo w') => Hmr0.out w' (bthen Hb.out hx) k
                have hdp := fun w' (hx : Below wo.heap.size wo w') => Hdp0.out w' (bthen Hb.out hx) k
                rw [one_is Hm.out hlt] at hls
                simp only [one_is Hm.out hlt, fits_more] at hmr
                have hft := fun w' (hx : Below wo.heap.size wo w') vc hvc => hf1 w' hx vc [t] hvc Hst.out
                unfold SoPost at hft
                have hDA := two_fits Hm.out hlt { c := [t] } { c := c, child := ch }
                have hS := fun w' (hx : Below wo.heap.size wo w') => And.intro (hc1 w' hx) (Hbx0.out w' (bthen Hb.out hx))
                unfold Cells6 at hS
                cases hA : fitsC (at_ f (k : Int)) c with
                | false =>
                  have hD : isS f (k : Int) [[{ c := [t] }, { c := c, child := ch }]] = false := by
                    cases h1 : isS f (k : Int) [[{ c := [t] }, { c := c, child := ch }]] with
                    | false => rfl
                    | true => have := hDA h1; rw [hA] at this; cases this
                  rw [hA] at hls
                  simp only [hA, Bool.false_and] at hmr
                  simp only [hD] at hdp
                  generalize at_ f (k : Int) = nd at *
                  have Hls := Lib.hid hls; have Hmr := Lib.hid hmr; have Hdp := Lib.hid hdp; have HS := Lib.hid hS
                  clear hls hmr hdp hft hDA hS hA hD hc1 hf1
                  go_upto_region 11 with (go_at_call 43; (with_reducible refine (Hls.out).mono ?_); rintro e w12 ⟨rfl, hb12⟩; have Hb12 := Lib.hid hb12; clear hb12)
                  refine wp_region_held_drew (S := (fun w' => (w'.cell? ⟨bn, on + k * 6, none⟩ = some (.int .i64 nd.kind) ∧ w'.cell? ⟨bn, on + k * 6 + 1, none⟩ = some (.string nd.name) ∧ w'.cell? ⟨bn, on + k * 6 + 2, none⟩ = some (.string nd.text) ∧ w'.cell? ⟨bn, on + k * 6 + 3, none⟩ = some (.slice A13 n13 c13) ∧ w'.cell? ⟨bn, on + k * 6 + 4, none⟩ = some (.int .i64 nd.parent) ∧ w'.cell? ⟨bn, on + k * 6 + 5, none⟩ = some (.slice A14 n14 c14)) ∧ w'.cell? ⟨w.heap.size, 0, none⟩ = some (.int .i64 t.kind) ∧ w'.cell? ⟨w.heap.size, 1, none⟩ = some (.string t.name) ∧ w'.cell? ⟨w.heap.size, 2, none⟩ = some (.string t.value))) (by kernel_rfl) (HS.out _ Hb12.out.drew) (fun hHeld => ?_)
                  have HbD := Lib.hid Hb12.out.drew
                  obtain ⟨wD, hwD⟩ : ∃ x, w12.drew = x := ⟨_, rfl⟩
                  rw [hwD] at hHeld HbD ⊢
                  clear hwD
                  refine' wpAnyH_take (i := 0) (v := ?v0af) rfl (by kernel_rfl) (by kernel_rfl) (by kernel_rfl) (fun _ _ _ h => h) (Or.inl ⟨by kernel_rfl, ?hy0af⟩) (by assumption) ?rest0af
                  case hy0af => (intro w hSw; (try dsimp only at hSw); go_simp; (try with_reducible rfl))
                  (try simp only [Act.put, List.getElem_toArray, List.getElem_cons_succ, List.getElem_cons_zero, List.setIfInBounds_toArray, List.set_cons_zero, List.set_cons_succ])
                  refine' wpAnyH_take (i := 1) (v := ?v1af) rfl (by kernel_rfl) (by kernel_rfl) (by kernel_rfl) (fun _ _ _ h => h) (Or.inl ⟨by kernel_rfl, ?hy1af⟩) (by assumption) ?rest1af
                  case hy1af => (intro w hSw; (try dsimp only at hSw); go_simp; (try with_reducible rfl))
                  (try simp only [Act.put, List.getElem_toArray, List.getElem_cons_succ, List.getElem_cons_zero, List.setIfInBounds_toArray, List.set_cons_zero, List.set_cons_succ])
                  refine' wpAnyH_take (i := 2) (v := ?v2af) rfl (by kernel_rfl) (by kernel_rfl) (by kernel_rfl) (fun _ _ _ h => h) (Or.inl ⟨by kernel_rfl, ?hy2af⟩) (by assumption) ?rest2af
                  case hy2af => (intro w hSw; (try dsimp only at hSw); go_simp; (try with_reducible rfl))
                  (try simp only [Act.put, List.getElem_toArray, List.getElem_cons_succ, List.getElem_cons_zero, List.setIfInBounds_toArray, List.set_cons_zero, List.set_cons_succ])
                  refine' wpAnyH_take (i := 3) (v := ?v3af) rfl (by kernel_rfl) (by kernel_rfl) (by kernel_rfl) (fun _ _ _ h => h) (Or.inl ⟨by kernel_rfl, ?hy3af⟩) (by assumption) ?rest3af
                  case hy3af => (intro w hSw; (try dsimp only at hSw); go_simp; (try with_reducible rfl))
                  (try simp only [Act.put, List.getElem_toArray, List.getElem_cons_succ, List.getElem_cons_zero, List.setIfInBounds_toArray, List.set_cons_zero, List.set_cons_succ])
                  refine' wpAnyH_take (i := 4) (v := ?v4af) rfl (by kernel_rfl) (by kernel_rfl) (by kernel_rfl) (fun _ _ _ h => h) (Or.inl ⟨by kernel_rfl, ?hy4af⟩) (by assumption) ?rest4af
                  case hy4af => (intro w hSw; (try dsimp only at hSw); go_simp; (try with_reducible rfl))
                  (try simp only [Act.put, List.getElem_toArray, List.getElem_cons_succ, List.getElem_cons_zero, List.setIfInBounds_toArray, List.set_cons_zero, List.set_cons_succ])
                  refine' wpAnyH_take (i := 5) (v := ?v5af) rfl (by kernel_rfl) (by kernel_rfl) (by kernel_rfl) (fun _ _ _ h => h) (Or.inl ⟨by kernel_rfl, ?hy5af⟩) (by assumption) ?rest5af
                  case hy5af => (intro w hSw; (try dsimp only at hSw); go_simp; (try with_reducible rfl))
                  (try simp only [Act.put, List.getElem_toArray, List.getElem_cons_succ, List.getElem_cons_zero, List.setIfInBounds_toArray, List.set_cons_zero, List.set_cons_succ])
                  refine wpAnyH_ready (rs := [6]) (by kernel_rfl) (by simp) ?_
                  refine AllReadyH.cons (o := ?oo1) ?ho1 (fun K hK => ?_) AllReadyH.nil
                  case ho1 => (simp only [List.getElem?_toArray, List.getElem?_cons_succ, List.getElem?_cons_zero]; rfl)
                  refine if_want (by kernel_rfl) ?_
                  go_simp
                  (go_at_call 43; (with_reducible refine (Hmr.out _ HbD.out).mono ?_); rintro e w13 ⟨rfl, hb0⟩; have Hb13 := Lib.hid (bthen HbD.out hb0); clear hb0)
                  refine hK.out _ _ (HS.out _ Hb13.out) (fun hHeld => ?_)
                  clear hK K
                  (try simp only [Act.put, List.getElem_toArray, List.getElem_cons_succ, List.getElem_cons_zero, List.setIfInBounds_toArray, List.set_cons_zero, List.set_cons_succ])
                  refine' wpAnyH_take (i := 7) (v := ?v7af) rfl (by kernel_rfl) (by kernel_rfl) (by kernel_rfl) (fun _ _ _ h => h) (Or.inl ⟨by kernel_rfl, ?hy7af⟩) (by assumption) ?rest7af
                  case hy7af => (intro w hSw; (try dsimp only at hSw); go_simp; (try with_reducible rfl))
                  (try simp only [Act.put, List.getElem_toArray, List.getElem_cons_succ, List.getElem_cons_zero, List.setIfInBounds_toArray, List.set_cons_zero, List.set_cons_succ])
                  refine' wpAnyH_take (i := 8) (v := ?v8af) rfl (by kernel_rfl) (by kernel_rfl) (by kernel_rfl) (fun _ _ _ h => h) (Or.inl ⟨by kernel_rfl, ?hy8af⟩) (by assumption) ?rest8af
                  case hy8af => (intro w hSw; (try dsimp only at hSw); go_simp; (try with_reducible rfl))
                  (try simp only [Act.put, List.getElem_toArray, List.getElem_cons_succ, List.getElem_cons_zero, List.setIfInBounds_toArray, List.set_cons_zero, List.set_cons_succ])
                  refine' wpAnyH_take (i := 9) (v := ?v9af) rfl (by kernel_rfl) (by kernel_rfl) (by kernel_rfl) (fun _ _ _ h => h) (Or.inl ⟨by kernel_rfl, ?hy9af⟩) (by assumption) ?rest9af
                  case hy9af => (intro w hSw; (try dsimp only at hSw); go_simp; (try with_reducible rfl))
                  (try simp only [Act.put, List.getElem_toArray, List.getElem_cons_succ, List.getElem_cons_zero, List.setIfInBounds_toArray, List.set_cons_zero, List.set_cons_succ])
                  refine' wpAnyH_take (i := 10) (v := ?v10af) rfl (by kernel_rfl) (by kernel_rfl) (by kernel_rfl) (fun _ _ _ h => h) (Or.inl ⟨by kernel_rfl, ?hy10af⟩) (by assumption) ?rest10af
                  case hy10af => (intro w hSw; (try dsimp only at hSw); go_simp; (try with_reducible rfl))
                  (try simp only [Act.put, List.getElem_toArray, List.getElem_cons_succ, List.getElem_cons_zero, List.setIfInBounds_toArray, List.set_cons_zero, List.set_cons_succ])
                  refine wpAnyH_ready (rs := [11]) (by kernel_rfl) (by simp) ?_
                  refine AllReadyH.cons (o := ?oo2) ?ho2 (fun K hK => ?_) AllReadyH.nil
                  case ho2 => (simp only [List.getElem?_toArray, List.getElem?_cons_succ, List.getElem?_cons_zero]; rfl)
                  refine if_want (by kernel_rfl) ?_
                  go_simp
                  (go_at_call 43; (with_reducible refine (Hdp.out _ Hb13.out).mono ?_); rintro e w14 ⟨rfl, hb0⟩; have Hb14 := Lib.hid (bthen Hb13.out hb0); clear hb0)
                  refine hK.out _ _ (HS.out _ Hb14.out) (fun hHeld => ?_)
                  clear hK K
                  (try simp only [Act.put, List.getElem_toArray, List.getElem_cons_succ, List.getElem_cons_zero, List.setIfInBounds_toArray, List.set_cons_zero, List.set_cons_succ])
                  refine' wpAnyH_take (i := 12) (v := ?v12af) rfl (by kernel_rfl) (by kernel_rfl) (by kernel_rfl) (fun _ _ _ h => h) (Or.inl ⟨by kernel_rfl, ?hy12af⟩) (by assumption) ?rest12af
                  case hy12af => (intro w hSw; (try dsimp only at hSw); go_simp; (try with_reducible rfl))
                  (try simp only [Act.put, List.getElem_toArray, List.getElem_cons_succ, List.getElem_cons_zero, List.setIfInBounds_toArray, List.set_cons_zero, List.set_cons_succ])
                  refine' wpAnyH_take (i := 13) (v := ?v13af) rfl (by kernel_rfl) (by kernel_rfl) (by kernel_rfl) (fun _ _ _ h => h) (Or.inl ⟨by kernel_rfl, ?hy13af⟩) (by assumption) ?rest13af
                  case hy13af => (intro w hSw; (try dsimp only at hSw); go_simp; (try with_reducible rfl))
                  (try simp only [Act.put, List.getElem_toArray, List.getElem_cons_succ, List.getElem_cons_zero, List.setIfInBounds_toArray, List.set_cons_zero, List.set_cons_succ])
                  refine' wpAnyH_take (i := 14) (v := ?v14af) rfl (by kernel_rfl) (by kernel_rfl) (by kernel_rfl) (fun _ _ _ h => h) (Or.inl ⟨by kernel_rfl, ?hy14af⟩) (by assumption) ?rest14af
                  case hy14af => (intro w hSw; (try dsimp only at hSw); go_simp; (try with_reducible rfl))
                  (try simp only [Act.put, List.getElem_toArray, List.getElem_cons_succ, List.getElem_cons_zero, List.setIfInBounds_toArray, List.set_cons_zero, List.set_cons_succ])
                  refine' wpAnyH_take (i := 15) (v := ?v15af) rfl (by kernel_rfl) (by kernel_rfl) (by kernel_rfl) (fun _ _ _ h => h) (Or.inl ⟨by kernel_rfl, ?hy15af⟩) (by assumption) ?rest15af
                  case hy15af => (intro w hSw; (try dsimp only at hSw); go_simp; (try with_reducible rfl))
                  (try simp only [Act.put, List.getElem_toArray, List.getElem_cons_succ, List.getElem_cons_zero, List.setIfInBounds_toArray, List.set_cons_zero, List.set_cons_succ])
                  refine' wpAnyH_take (i := 16) (v := ?v16af) rfl (by kernel_rfl) (by kernel_rfl) (by kernel_rfl) (fun _ _ _ h => h) (Or.inl ⟨by kernel_rfl, ?hy16af⟩) (by assumption) ?rest16af
                  case hy16af => (intro w hSw; (try dsimp only at hSw); go_simp; (try with_reducible rfl))
                  (try simp only [Act.put, List.getElem_toArray, List.getElem_cons_succ, List.getElem_cons_zero, List.setIfInBounds_toArray, List.set_cons_zero, List.set_cons_succ])
                  refine' wpAnyH_take (i := 17) (v := ?v17af) rfl (by kernel_rfl) (by kernel_rfl) (by kernel_rfl) (fun _ _ _ h => h) (Or.inl ⟨by kernel_rfl, ?hy17af⟩) (by assumption) ?rest17af
                  case hy17af => (intro w hSw; (try dsimp only at hSw); go_simp; (try with_reducible rfl))
                  (try simp only [Act.put, List.getElem_toArray, List.getElem_cons_succ, List.getElem_cons_zero, List.setIfInBounds_toArray, List.set_cons_zero, List.set_cons_succ])
                  refine' wpAnyH_take (i := 19) (v := ?v19af) rfl (by kernel_rfl) (by kernel_rfl) (by kernel_rfl) (fun _ _ _ h => h) (Or.inl ⟨by kernel_rfl, ?hy19af⟩) (by assumption) ?rest19af
                  case hy19af => (intro w hSw; (try dsimp only at hSw); go_simp; (try with_reducible rfl))
                  (try simp only [Act.put, List.getElem_toArray, List.getElem_cons_succ, List.getElem_cons_zero, List.setIfInBounds_toArray, List.set_cons_zero, List.set_cons_succ])
                  refine wpAnyH_ready (rs := [18]) (by kernel_rfl) (by simp) ?_
                  refine AllReadyH.cons (o := ?oo3) ?ho3 (fun K hK => ?_) AllReadyH.nil
                  case ho3 => (simp only [List.getElem?_toArray, List.getElem?_cons_succ, List.getElem?_cons_zero]; rfl)
                  refine if_want (by kernel_rfl) ?_
                  go_simp
                  (go_at_call 43; (with_reducible refine (Hmr.out _ Hb14.out).mono ?_); rintro e w15 ⟨rfl, hb0⟩; have Hb15 := Lib.hid (bthen Hb14.out hb0); clear hb0)
                  refine hK.out _ _ (HS.out _ Hb15.out) (fun hHeld => ?_)
                  clear hK K
                  (try simp only [Act.put, List.getElem_toArray, List.getElem_cons_succ, List.getElem_cons_zero, List.setIfInBounds_toArray, List.set_cons_zero, List.set_cons_succ])
                  refine' wpAnyH_take (i := 20) (v := ?v20af) rfl (by kernel_rfl) (by kernel_rfl) (by kernel_rfl) (fun _ _ _ h => h) (Or.inl ⟨by kernel_rfl, ?hy20af⟩) (by assumption) ?rest20af
                  case hy20af => (intro w hSw; (try dsimp only at hSw); go_simp; (try with_reducible rfl))
                  (try simp only [Act.put, List.getElem_toArray, List.getElem_cons_succ, List.getElem_cons_zero, List.setIfInBounds_toArray, List.set_cons_zero, List.set_cons_succ])
                  refine' wpAnyH_take (i := 21) (v := undef) rfl (by kernel_rfl) (by kernel_rfl) (by kernel_rfl) (fun _ _ _ h => h) (Or.inr ⟨by kernel_rfl, rfl⟩) (by assumption) ?rest21af
                  (try simp only [Act.put, List.getElem_toArray, List.getElem_cons_succ, List.getElem_cons_zero, List.setIfInBounds_toArray, List.set_cons_zero, List.set_cons_succ])
                  refine' wpAnyH_take (i := 22) (v := undef) rfl (by kernel_rfl) (by kernel_rfl) (by kernel_rfl) (fun _ _ _ h => h) (Or.inr ⟨by kernel_rfl, rfl⟩) (by assumption) ?rest22af
                  (try simp only [Act.put, List.getElem_toArray, List.getElem_cons_succ, List.getElem_cons_zero, List.setIfInBounds_toArray, List.set_cons_zero, List.set_cons_succ])
                  refine' wpAnyH_take (i := 23) (v := undef) rfl (by kernel_rfl) (by kernel_rfl) (by kernel_rfl) (fun _ _ _ h => h) (Or.inr ⟨by kernel_rfl, rfl⟩) (by assumption) ?rest23af
                  (try simp only [Act.put, List.getElem_toArray, List.getElem_cons_succ, List.getElem_cons_zero, List.setIfInBounds_toArray, List.set_cons_zero, List.set_cons_succ])
                  refine' wpAnyH_take (i := 24) (v := undef) rfl (by kernel_rfl) (by kernel_rfl) (by kernel_rfl) (fun _ _ _ h => h) (Or.inr ⟨by kernel_rfl, rfl⟩) (by assumption) ?rest24af
                  (try simp only [Act.put, List.getElem_toArray, List.getElem_cons_succ, List.getElem_cons_zero, List.setIfInBounds_toArray, List.set_cons_zero, List.set_cons_succ])
                  refine' wpAnyH_take (i := 25) (v := undef) rfl (by kernel_rfl) (by kernel_rfl) (by kernel_rfl) (fun _ _ _ h => h) (Or.inr ⟨by kernel_rfl, rfl⟩) (by assumption) ?rest25af
                  (try simp only [Act.put, List.getElem_toArray, List.getElem_cons_succ, List.getElem_cons_zero, List.setIfInBounds_toArray, List.set_cons_zero, List.set_cons_succ])
                  refine' wpAnyH_take (i := 26) (v := undef) rfl (by kernel_rfl) (by kernel_rfl) (by kernel_rfl) (fun _ _ _ h => h) (Or.inr ⟨by kernel_rfl, rfl⟩) (by assumption) ?rest26af
                  (try simp only [Act.put, List.getElem_toArray, List.getElem_cons_succ, List.getElem_cons_zero, List.setIfInBounds_toArray, List.set_cons_zero, List.set_cons_succ])
                  refine' wpAnyH_take (i := 27) (v := undef) rfl (by kernel_rfl) (by kernel_rfl) (by kernel_rfl) (fun _ _ _ h => h) (Or.inr ⟨by kernel_rfl, rfl⟩) (by assumption) ?rest27af
                  (try simp only [Act.put, List.getElem_toArray, List.getElem_cons_succ, List.getElem_cons_zero, List.setIfInBounds_toArray, List.set_cons_zero, List.set_cons_succ])
                  refine' wpAnyH_take (i := 28) (v := ?v28af) rfl (by kernel_rfl) (by kernel_rfl) (by kernel_rfl) (fun _ _ _ h => h) (Or.inl ⟨by kernel_rfl, ?hy28af⟩) (by assumption) ?rest28af
                  case hy28af => (intro w hSw; (try dsimp only at hSw); go_simp; (try with_reducible rfl))
                  (try simp only [Act.put, List.getElem_toArray, List.getElem_cons_succ, List.getElem_cons_zero, List.setIfInBounds_toArray, List.set_cons_zero, List.set_cons_succ])
                  refine' wpAnyH_take (i := 29) (v := ?v29af) rfl (by kernel_rfl) (by kernel_rfl) (by kernel_rfl) (fun _ _ _ h => h) (Or.inl ⟨by kernel_rfl, ?hy29af⟩) (by assumption) ?rest29af
                  case hy29af => (intro w hSw; (try dsimp only at hSw); go_simp; (try with_reducible rfl))
                  (try simp only [Act.put, List.getElem_toArray, List.getElem_cons_succ, List.getElem_cons_zero, List.setIfInBounds_toArray, List.set_cons_zero, List.set_cons_succ])
                  refine' wpAnyH_take (i := 30) (v := ?v30af) rfl (by kernel_rfl) (by kernel_rfl) (by kernel_rfl) (fun _ _ _ h => h) (Or.inl ⟨by kernel_rfl, ?hy30af⟩) (by assumption) ?rest30af
                  case hy30af => (intro w hSw; (try dsimp only at hSw); go_simp; (try with_reducible rfl))
                  (try simp only [Act.put, List.getElem_toArray, List.getElem_cons_succ, List.getElem_cons_zero, List.setIfInBounds_toArray, List.set_cons_zero, List.set_cons_succ])
                  refine wpAnyH_done (by kernel_rfl) ?_ _
                  go_wp2_with fail
                  go_roundw
                  case rel => exact ⟨k + 1, by omega, by go_num, Lib.hid (bthen Hb.out Hb15.out)⟩
                  case measure => simp [intOf]; omega
                | true =>
                  rw [hA] at hls
                  simp only [hA, Bool.true_and] at hmr
                  have hS0 := hS wo (Below.refl _ _)
                  obtain ⟨B, hB⟩ : ∃ B, B = fitsC (at_ f (k : Int)) [t] := ⟨_, rfl⟩
                  simp only [← hB] at hmr hft
                  clear hB hA hDA hc1 hf1 hdp
                  generalize at_ f (k : Int) = nd at *
                  have Hls := Lib.hid hls; have Hmr := Lib.hid hmr; have Hft := Lib.hid hft; have HS := Lib.hid hS
                  clear hls hmr hft hS hS0
                  have hBB : (B != B) = false := by cases B <;> rfl
                  go_upto_region 11 with (go_at_call 43; (with_reducible refine (Hls.out).mono ?_); rintro e w12 ⟨rfl, hb12⟩; have Hb12 := Lib.hid hb12; clear hb12)
                  refine wp_region_held_drew (S := (fun w' => (w'.cell? ⟨bn, on + k * 6, none⟩ = some (.int .i64 nd.kind) ∧ w'.cell? ⟨bn, on + k * 6 + 1, none⟩ = some (.string nd.name) ∧ w'.cell? ⟨bn, on + k * 6 + 2, none⟩ = some (.string nd.text) ∧ w'.cell? ⟨bn, on + k * 6 + 3, none⟩ = some (.slice A13 n13 c13) ∧ w'.cell? ⟨bn, on + k * 6 + 4, none⟩ = some (.int .i64 nd.parent) ∧ w'.cell? ⟨bn, on + k * 6 + 5, none⟩ = some (.slice A14 n14 c14)) ∧ w'.cell? ⟨w.heap.size, 0, none⟩ = some (.int .i64 t.kind) ∧ w'.cell? ⟨w.heap.size, 1, none⟩ = some (.string t.name) ∧ w'.cell? ⟨w.heap.size, 2, none⟩ = some (.string t.value))) (by kernel_rfl) (HS.out _ Hb12.out.drew) (fun hHeld => ?_)
                  have HbD := Lib.hid Hb12.out.drew
                  obtain ⟨wD, hwD⟩ : ∃ x, w12.drew = x := ⟨_, rfl⟩
                  rw [hwD] at hHeld HbD ⊢
                  clear hwD
                  refine' wpAnyH_take (i := 0) (v := ?v0at) rfl (by kernel_rfl) (by kernel_rfl) (by kernel_rfl) (fun _ _ _ h => h) (Or.inl ⟨by kernel_rfl, ?hy0at⟩) (by assumption) ?rest0at
                  case hy0at => (intro w hSw; (try dsimp only at hSw); go_simp; (try with_reducible rfl))
                  (try simp only [Act.put, List.getElem_toArray, List.getElem_cons_succ, List.getElem_cons_zero, List.setIfInBounds_toArray, List.set_cons_zero, List.set_cons_succ])
                  refine' wpAnyH_take (i := 1) (v := ?v1at) rfl (by kernel_rfl) (by kernel_rfl) (by kernel_rfl) (fun _ _ _ h => h) (Or.inl ⟨by kernel_rfl, ?hy1at⟩) (by assumption) ?rest1at
                  case hy1at => (intro w hSw; (try dsimp only at hSw); go_simp; (try with_reducible rfl))
                  (try simp only [Act.put, List.getElem_toArray, List.getElem_cons_succ, List.getElem_cons_zero, List.setIfInBounds_toArray, List.set_cons_zero, List.set_cons_succ])
                  refine' wpAnyH_take (i := 2) (v := ?v2at) rfl (by kernel_rfl) (by kernel_rfl) (by kernel_rfl) (fun _ _ _ h => h) (Or.inl ⟨by kernel_rfl, ?hy2at⟩) (by assumption) ?rest2at
                  case hy2at => (intro w hSw; (try dsimp only at hSw); go_simp; (try with_reducible rfl))
                  (try simp only [Act.put, List.getElem_toArray, List.getElem_cons_succ, List.getElem_cons_zero, List.setIfInBounds_toArray, List.set_cons_zero, List.set_cons_succ])
                  refine' wpAnyH_take (i := 3) (v := undef) rfl (by kernel_rfl) (by kernel_rfl) (by kernel_rfl) (fun _ _ _ h => h) (Or.inr ⟨by kernel_rfl, rfl⟩) (by assumption) ?rest3at
                  (try simp only [Act.put, List.getElem_toArray, List.getElem_cons_succ, List.getElem_cons_zero, List.setIfInBounds_toArray, List.set_cons_zero, List.set_cons_succ])
                  refine' wpAnyH_take (i := 4) (v := undef) rfl (by kernel_rfl) (by kernel_rfl) (by kernel_rfl) (fun _ _ _ h => h) (Or.inr ⟨by kernel_rfl, rfl⟩) (by assumption) ?rest4at
                  (try simp only [Act.put, List.getElem_toArray, List.getElem_cons_succ, List.getElem_cons_zero, List.setIfInBounds_toArray, List.set_cons_zero, List.set_cons_succ])
                  refine' wpAnyH_take (i := 5) (v := undef) rfl (by kernel_rfl) (by kernel_rfl) (by kernel_rfl) (fun _ _ _ h => h) (Or.inr ⟨by kernel_rfl, rfl⟩) (by assumption) ?rest5at
                  (try simp only [Act.put, List.getElem_toArray, List.getElem_cons_succ, List.getElem_cons_zero, List.setIfInBounds_toArray, List.set_cons_zero, List.set_cons_succ])
                  refine' wpAnyH_take (i := 6) (v := undef) rfl (by kernel_rfl) (by kernel_rfl) (by kernel_rfl) (fun _ _ _ h => h) (Or.inr ⟨by kernel_rfl, rfl⟩) (by assumption) ?rest6at
                  (try simp only [Act.put, List.getElem_toArray, List.getElem_cons_succ, List.getElem_cons_zero, List.setIfInBounds_toArray, List.set_cons_zero, List.set_cons_succ])
                  refine' wpAnyH_take (i := 7) (v := undef) rfl (by kernel_rfl) (by kernel_rfl) (by kernel_rfl) (fun _ _ _ h => h) (Or.inr ⟨by kernel_rfl, rfl⟩) (by assumption) ?rest7at
                  (try simp only [Act.put, List.getElem_toArray, List.getElem_cons_succ, List.getElem_cons_zero, List.setIfInBounds_toArray, List.set_cons_zero, List.set_cons_succ])
                  refine' wpAnyH_take (i := 8) (v := undef) rfl (by kernel_rfl) (by kernel_rfl) (by kernel_rfl) (fun _ _ _ h => h) (Or.inr ⟨by kernel_rfl, rfl⟩) (by assumption) ?rest8at
                  (try simp only [Act.put, List.getElem_toArray, List.getElem_cons_succ, List.getElem_cons_zero, List.setIfInBounds_toArray, List.set_cons_zero, List.set_cons_succ])
                  refine' wpAnyH_take (i := 9) (v := undef) rfl (by kernel_rfl) (by kernel_rfl) (by kernel_rfl) (fun _ _ _ h => h) (Or.inr ⟨by kernel_rfl, rfl⟩) (by assumption) ?rest9at
                  (try simp only [Act.put, List.getElem_toArray, List.getElem_cons_succ, List.getElem_cons_zero, List.setIfInBounds_toArray, List.set_cons_zero, List.set_cons_succ])
                  refine' wpAnyH_take (i := 10) (v := undef) rfl (by kernel_rfl) (by kernel_rfl) (by kernel_rfl) (fun _ _ _ h => h) (Or.inr ⟨by kernel_rfl, rfl⟩) (by assumption) ?rest10at
                  (try simp only [Act.put, List.getElem_toArray, List.getElem_cons_succ, List.getElem_cons_zero, List.setIfInBounds_toArray, List.set_cons_zero, List.set_cons_succ])
                  refine' wpAnyH_take (i := 11) (v := undef) rfl (by kernel_rfl) (by kernel_rfl) (by kernel_rfl) (fun _ _ _ h => h) (Or.inr ⟨by kernel_rfl, rfl⟩) (by assumption) ?rest11at
                  (try simp only [Act.put, List.getElem_toArray, List.getElem_cons_succ, List.getElem_cons_zero, List.setIfInBounds_toArray, List.set_cons_zero, List.set_cons_succ])
                  refine' wpAnyH_take (i := 12) (v := undef) rfl (by kernel_rfl) (by kernel_rfl) (by kernel_rfl) (fun _ _ _ h => h) (Or.inr ⟨by kernel_rfl, rfl⟩) (by assumption) ?rest12at
                  (try simp only [Act.put, List.getElem_toArray, List.getElem_cons_succ, List.getElem_cons_zero, List.setIfInBounds_toArray, List.set_cons_zero, List.set_cons_succ])
                  refine' wpAnyH_take (i := 13) (v := ?v13at) rfl (by kernel_rfl) (by kernel_rfl) (by kernel_rfl) (fun _ _ _ h => h) (Or.inl ⟨by kernel_rfl, ?hy13at⟩) (by assumption) ?rest13at
                  case hy13at => (intro w hSw; (try dsimp only at hSw); go_simp; (try with_reducible rfl))
                  (try simp only [Act.put, List.getElem_toArray, List.getElem_cons_succ, List.getElem_cons_zero, List.setIfInBounds_toArray, List.set_cons_zero, List.set_cons_succ])
                  refine' wpAnyH_take (i := 14) (v := ?v14at) rfl (by kernel_rfl) (by kernel_rfl) (by kernel_rfl) (fun _ _ _ h => h) (Or.inl ⟨by kernel_rfl, ?hy14at⟩) (by assumption) ?rest14at
                  case hy14at => (intro w hSw; (try dsimp only at hSw); go_simp; (try with_reducible rfl))
                  (try simp only [Act.put, List.getElem_toArray, List.getElem_cons_succ, List.getElem_cons_zero, List.setIfInBounds_toArray, List.set_cons_zero, List.set_cons_succ])
                  refine' wpAnyH_take (i := 15) (v := ?v15at) rfl (by kernel_rfl) (by kernel_rfl) (by kernel_rfl) (fun _ _ _ h => h) (Or.inl ⟨by kernel_rfl, ?hy15at⟩) (by assumption) ?rest15at
                  case hy15at => (intro w hSw; (try dsimp only at hSw); go_simp; (try with_reducible rfl))
                  (try simp only [Act.put, List.getElem_toArray, List.getElem_cons_succ, List.getElem_cons_zero, List.setIfInBounds_toArray, List.set_cons_zero, List.set_cons_succ])
                  refine' wpAnyH_take (i := 16) (v := ?v16at) rfl (by kernel_rfl) (by kernel_rfl) (by kernel_rfl) (fun _ _ _ h => h) (Or.inl ⟨by kernel_rfl, ?hy16at⟩) (by assumption) ?rest16at
                  case hy16at => (intro w hSw; (try dsimp only at hSw); go_simp; (try with_reducible rfl))
                  (try simp only [Act.put, List.getElem_toArray, List.getElem_cons_succ, List.getElem_cons_zero, List.setIfInBounds_toArray, List.set_cons_zero, List.set_cons_succ])
                  refine' wpAnyH_take (i := 17) (v := ?v17at) rfl (by kernel_rfl) (by kernel_rfl) (by kernel_rfl) (fun _ _ _ h => h) (Or.inl ⟨by kernel_rfl, ?hy17at⟩) (by assumption) ?rest17at
                  case hy17at => (intro w hSw; (try dsimp only at hSw); go_simp; (try with_reducible rfl))
                  (try simp only [Act.put, List.getElem_toArray, List.getElem_cons_succ, List.getElem_cons_zero, List.setIfInBounds_toArray, List.set_cons_zero, List.set_cons_succ])
                  refine' wpAnyH_take (i := 19) (v := ?v19at) rfl (by kernel_rfl) (by kernel_rfl) (by kernel_rfl) (fun _ _ _ h => h) (Or.inl ⟨by kernel_rfl, ?hy19at⟩) (by assumption) ?rest19at
                  case hy19at => (intro w hSw; (try dsimp only at hSw); go_simp; (try with_reducible rfl))
                  (try simp only [Act.put, List.getElem_toArray, List.getElem_cons_succ, List.getElem_cons_zero, List.setIfInBounds_toArray, List.set_cons_zero, List.set_cons_succ])
                  refine wpAnyH_ready (rs := [18]) (by kernel_rfl) (by simp) ?_
                  refine AllReadyH.cons (o := ?oo10) ?ho10 (fun K hK => ?_) AllReadyH.nil
                  case ho10 => (simp only [List.getElem?_toArray, List.getElem?_cons_succ, List.getElem?_cons_zero]; rfl)
                  refine if_want (by kernel_rfl) ?_
                  go_simp
                  (go_at_call 43; (with_reducible refine (Hmr.out _ HbD.out).mono ?_); rintro e w13 ⟨rfl, hb0⟩; have Hb13 := Lib.hid (bthen HbD.out hb0); clear hb0)
                  refine hK.out _ _ (HS.out _ Hb13.out) (fun hHeld => ?_)
                  clear hK K
                  (try simp only [Act.put, List.getElem_toArray, List.getElem_cons_succ, List.getElem_cons_zero, List.setIfInBounds_toArray, List.set_cons_zero, List.set_cons_succ])
                  refine' wpAnyH_take (i := 20) (v := ?v20at) rfl (by kernel_rfl) (by kernel_rfl) (by kernel_rfl) (fun _ _ _ h => h) (Or.inl ⟨by kernel_rfl, ?hy20at⟩) (by assumption) ?rest20at
                  case hy20at => (intro w hSw; (try dsimp only at hSw); go_simp; (try with_reducible rfl))
                  (try simp only [Act.put, List.getElem_toArray, List.getElem_cons_succ, List.getElem_cons_zero, List.setIfInBounds_toArray, List.set_cons_zero, List.set_cons_succ])
                  refine' wpAnyH_take (i := 21) (v := ?v21at) rfl (by kernel_rfl) (by kernel_rfl) (by kernel_rfl) (fun _ _ _ h => h) (Or.inl ⟨by kernel_rfl, ?hy21at⟩) (by assumption) ?rest21at
                  case hy21at => (intro w hSw; (try dsimp only at hSw); go_simp; (try with_reducible rfl))
                  (try simp only [Act.put, List.getElem_toArray, List.getElem_cons_succ, List.getElem_cons_zero, List.setIfInBounds_toArray, List.set_cons_zero, List.set_cons_succ])
                  refine' wpAnyH_take (i := 22) (v := ?v22at) rfl (by kernel_rfl) (by kernel_rfl) (by kernel_rfl) (fun _ _ _ h => h) (Or.inl ⟨by kernel_rfl, ?hy22at⟩) (by assumption) ?rest22at
                  case hy22at => (intro w hSw; (try dsimp only at hSw); go_simp; (try with_reducible rfl))
                  (try simp only [Act.put, List.getElem_toArray, List.getElem_cons_succ, List.getElem_cons_zero, List.setIfInBounds_toArray, List.set_cons_zero, List.set_cons_succ])
                  refine' wpAnyH_take (i := 23) (v := ?v23at) rfl (by kernel_rfl) (by kernel_rfl) (by kernel_rfl) (fun _ _ _ h => h) (Or.inl ⟨by kernel_rfl, ?hy23at⟩) (by assumption) ?rest23at
                  case hy23at => (intro w hSw; (try dsimp only at hSw); go_simp; (try with_reducible rfl))
                  (try simp only [Act.put, List.getElem_toArray, List.getElem_cons_succ, List.getElem_cons_zero, List.setIfInBounds_toArray, List.set_cons_zero, List.set_cons_succ])
                  refine' wpAnyH_take (i := 24) (v := ?v24at) rfl (by kernel_rfl) (by kernel_rfl) (by kernel_rfl) (fun _ _ _ h => h) (Or.inl ⟨by kernel_rfl, ?hy24at⟩) (by assumption) ?rest24at
                  case hy24at => (intro w hSw; (try dsimp only at hSw); go_simp; (try with_reducible rfl))
                  (try simp only [Act.put, List.getElem_toArray, List.getElem_cons_succ, List.getElem_cons_zero, List.setIfInBounds_toArray, List.set_cons_zero, List.set_cons_succ])
                  refine' wpAnyH_take (i := 25) (v := ?v25at) rfl (by kernel_rfl) (by kernel_rfl) (by kernel_rfl) (fun _ _ _ h => h) (Or.inl ⟨by kernel_rfl, ?hy25at⟩) (by assumption) ?rest25at
                  case hy25at => (intro w hSw; (try dsimp only at hSw); go_simp; (try with_reducible rfl))
                  (try simp only [Act.put, List.getElem_toArray, List.getElem_cons_succ, List.getElem_cons_zero, List.setIfInBounds_toArray, List.set_cons_zero, List.set_cons_succ])
                  refine wpAnyH_ready (rs := [26]) (by kernel_rfl) (by simp) ?_
                  refine AllReadyH.cons (o := ?oo11) ?ho11 (fun K hK => ?_) AllReadyH.nil
                  case ho11 => (simp only [List.getElem?_toArray, List.getElem?_cons_succ, List.getElem?_cons_zero]; rfl)
                  refine if_want (by kernel_rfl) ?_
                  go_simp

                  refine hK.out _ _ (HS.out _ (Hb13.out.alloc Hb13.out.size _)) (fun hHeld => ?_)
                  clear hK K
                  (try simp only [Act.put, List.getElem_toArray, List.getElem_cons_succ, List.getElem_cons_zero, List.setIfInBounds_toArray, List.set_cons_zero, List.set_cons_succ])
                  refine wpAnyH_ready (rs := [27]) (by kernel_rfl) (by simp) ?_
                  refine AllReadyH.cons (o := ?oo12) ?ho12 (fun K hK => ?_) AllReadyH.nil
                  case ho12 => (simp only [List.getElem?_toArray, List.getElem?_cons_succ, List.getElem?_cons_zero]; rfl)
                  refine if_want (by kernel_rfl) ?_
                  go_simp
                  (go_at_call 45; (with_reducible refine (Hft.out _ (Hb13.out.alloc Hb13.out.size _) _ (one_test (World.alloc_heap_new w13 _) Ht.out)).mono ?_); rintro e w14 ⟨rfl, hb0⟩; have Hb14 := Lib.hid (bthen (Hb13.out.alloc Hb13.out.size _) hb0); clear hb0)
                  refine hK.out _ _ (HS.out _ Hb14.out) (fun hHeld => ?_)
                  clear hK K
                  (try simp only [Act.put, List.getElem_toArray, List.getElem_cons_succ, List.getElem_cons_zero, List.setIfInBounds_toArray, List.set_cons_zero, List.set_cons_succ])
                  refine' wpAnyH_take (i := 28) (v := ?v28at) rfl (by kernel_rfl) (by kernel_rfl) (by kernel_rfl) (fun _ _ _ h => h) (Or.inl ⟨by kernel_rfl, ?hy28at⟩) (by assumption) ?rest28at
                  case hy28at => (intro w hSw; (try dsimp only at hSw); go_simp; (try with_reducible rfl))
                  (try simp only [Act.put, List.getElem_toArray, List.getElem_cons_succ, List.getElem_cons_zero, List.setIfInBounds_toArray, List.set_cons_zero, List.set_cons_succ])
                  refine' wpAnyH_take (i := 29) (v := ?v29at) rfl (by kernel_rfl) (by kernel_rfl) (by kernel_rfl) (fun _ _ _ h => h) (Or.inl ⟨by kernel_rfl, ?hy29at⟩) (by assumption) ?rest29at
                  case hy29at => (intro w hSw; (try dsimp only at hSw); go_simp; (try with_reducible rfl))
                  (try simp only [Act.put, List.getElem_toArray, List.getElem_cons_succ, List.getElem_cons_zero, List.setIfInBounds_toArray, List.set_cons_zero, List.set_cons_succ])
                  refine' wpAnyH_take (i := 30) (v := ?v30at) rfl (by kernel_rfl) (by kernel_rfl) (by kernel_rfl) (fun _ _ _ h => h) (Or.inl ⟨by kernel_rfl, ?hy30at⟩) (by assumption) ?rest30at
                  case hy30at => (intro w hSw; (try dsimp only at hSw); go_simp; (try with_reducible rfl))
                  (try simp only [Act.put, List.getElem_toArray, List.getElem_cons_succ, List.getElem_cons_zero, List.setIfInBounds_toArray, List.set_cons_zero, List.set_cons_succ])
                  refine wpAnyH_done (by kernel_rfl) ?_ _
                  go_wp2_with fail
                  go_roundw
                  case rel => exact ⟨k + 1, by omega, by go_num, Lib.hid (bthen Hb.out Hb14.out)⟩
                  case measure => simp [intOf]; omega
              · obtain rfl : k = f.length := by omega
                have hpos : 0 < (f.length : Int) := by omega
                go_wp2_with fail
                go_ret
                exact ⟨ret_bool (by simp; omega), bthen HB0.out (bthen HB1.out (bthen Hb7.out (bthen HB8b.out (bthen HB911x.out hb.out))))⟩
end Go.Proofs.YthdenkkllpkplaaGreat.LMore
end
section
/- The law FindMore answers true at every input, and each argument reads afterwards as it read before; no condition. -/
namespace Go.Proofs.YthdenkkllpkplaaGreat.findMore
open Go.ChangeShapes Go.WideShapes Go.ChangeAt Go.RowKit
open Go.ChangeMaps (open_string shut_string)
set_option linter.unusedVariables false
theorem own : ownKnob Tryz.prog.godebug = none := by kernel_rfl
theorem laidOut : laidOutB Tryz.prog = true := by kernel_rfl
set_option maxRecDepth 100000 in
theorem lifted (os : Os) (started : os.Started) (H : Type) (enc : TypeId × Value → H) :
    ReturnsInHanded {} Tryz.checked os 16 .any (Rows.findMoreSpec.pre6 enc Tryz.prog Tryz.f16 Rows.findMoreRow.domain false) (Rows.findMoreSpec.post enc Tryz.prog Tryz.f16 false true false false) := by
  refine returnsInHanded_of_change_sized (C := Tryz.checked) own started (by kernel_rfl) Tryz.func16
    (ChangeSpec.witness6 (enc := enc) (C := Tryz.checked) false ⟨#[], #[.slice none 0 0, .slice none 0 0, .agg #[.int .i64 0, .string ByteArray.empty, .string ByteArray.empty], .bool false], []⟩ 8 (by kernel_rfl) (by kernel_rfl) (by kernel_rfl) (by kernel_rfl)) ?_
  intro W base args ds gs before hval0 hW hcnd hsz0 _
  have hsz : (DataW.weightsEach Tryz.prog (Tryz.f16.params.toList ++ Rows.findMoreSpec.plain.varTypes Tryz.prog) (ds ++ gs)).all (· ≤ reachBytes) = true := hsz0
  have hval : ∀ (j : Nat) t v, Tryz.f16.params[j]? = some t → args[j]? = some v → Value.okWide Tryz.prog W .any base t v := hval0
  have hW' := hW
  obtain ⟨p, q, hA0, hV, rfl, hfz, hnd⟩ := hW
  have hA : DataW.TrodAll enc Tryz.prog W 0 (fun _ => true) true Tryz.f16.params.toList args.toList ds p := hA0
  rw [Tryz.params16] at hA hval hsz
  obtain ⟨v0, vs0, d0, ds0, p0, q0, hargs, rfl, rfl, h0, r0⟩ := trodAll_cons hA
  obtain ⟨v1, vs1, d1, ds1, p1, q1, rfl, rfl, rfl, h1, r1⟩ := trodAll_cons r0
  obtain ⟨v2, vs2, d2, ds2, p2, q2, rfl, rfl, rfl, h2, r2⟩ := trodAll_cons r1
  obtain ⟨v3, vs3, d3, ds3, p3, q3, rfl, rfl, rfl, h3, r3⟩ := trodAll_cons r2
  obtain ⟨rfl, rfl, rfl⟩ := trodAll_nil r3
  obtain rfl : args = #[v0, v1, v2, v3] := by cases args; simp_all
  obtain ⟨rfl, rfl⟩ := trodVars_none hV
  have wt := hsz
  simp only [List.cons_append, List.nil_append, DataW.weightsEach, List.all_append, Bool.and_eq_true] at wt
  obtain ⟨wt0, wt1, wt2, wt3, _⟩ := wt
  have k0 := h0
  have lt0 : ∀ x ∈ p0, x.block < W.heap.size := by obtain ⟨m, hm⟩ := k0; exact DataW.trod_lt m _ _ _ hm
  obtain ⟨l0, x0⟩ := Rd.open_list 6 Tryz.underlying22 (by kernel_rfl) (by decide) Shapes.opens_op_Op (hval 0 22 v0 rfl rfl) h0
  have k1 := h1
  have lt1 : ∀ x ∈ p1, x.block < W.heap.size := by obtain ⟨m, hm⟩ := k1; exact DataW.trod_lt m _ _ _ hm
  obtain ⟨l1, x1, z1, _⟩ := Shapes.open_listZ 3 40 Tryz.underlying80 (by kernel_rfl) (by kernel_rfl) (by decide) (Shapes.Opens.z Shapes.opens_sel_Test) (hval 1 80 v1 rfl rfl) h1 wt1
  have k2 := h2
  have lt2 : ∀ x ∈ p2, x.block < W.heap.size := by obtain ⟨m, hm⟩ := k2; exact DataW.trod_lt m _ _ _ hm
  obtain ⟨l2, rfl, x2⟩ := Shapes.open_test Tryz.underlying102 Shapes.opens_sel_Test (hval 2 102 v2 rfl rfl) h2
  obtain ⟨a3, rfl, rfl, rfl⟩ := open_bool Tryz.underlying4 (hval 3 4 v3 rfl rfl) h3
  clear hA0 hval0 hsz0 hsz
  refine (LMore.law_calls W l0 v0 x0 l1 v1 x1 l2 x2 a3 z1).mono fun e W' ⟨he, bel⟩ => ?_
  subst he
  exact ⟨_, rfl, _, _, _, [], _, [], hW', trodAll_mk1 (shut_bool Tryz.underlying4 _), (trodAll_cons_mk (Below.trod laidOut (by kernel_rfl) (of_decide_eq_true (by kernel_rfl)) k0 bel lt0) (trodAll_cons_mk (Below.trod laidOut (by kernel_rfl) (of_decide_eq_true (by kernel_rfl)) k1 bel lt1) (trodAll_cons_mk (Below.trod laidOut (by kernel_rfl) (of_decide_eq_true (by kernel_rfl)) k2 bel lt2) (trodAll_cons_mk (shut_bool Tryz.underlying4 _) trodAll_mk0)))), rfl, bel.frame _, fun h => by cases h⟩
set_option maxHeartbeats 20000000 in
theorem closed : joinedFacts Tryz.pinned.checked.prog 16 Tryz.f16 Rows.findMoreSpec Rows.findMoreRow = true := by
  unfold joinedFacts
  repeat' (with_reducible refine Bool.and_eq_true_iff.2 ⟨?_, ?_⟩)
  all_goals as_aux_lemma => kernel_rfl
theorem over : Rows.findMoreRow.holds Tryz.pinned (OpenSpec.ofChange Rows.findMoreSpec) :=
  OpenClaim.holds_of_wide 16 Tryz.f16 rfl rfl rfl rfl rfl rfl rfl ⟨rfl, rfl, rfl, rfl, rfl⟩ rfl rfl rfl rfl rfl (by kernel_rfl) Tryz.func16 closed
    (of_decide_eq_true (by kernel_rfl)) (by unfold Func.isWrapper; first | (rw [if_pos (by decide +kernel)]; kernel_rfl) | (rw [if_neg (by decide +kernel)]; exact ⟨rfl, rfl⟩))
    (fun os started H enc _ => lifted os started H enc)
theorem proved : Rows.FindMoreSaid := over
end Go.Proofs.YthdenkkllpkplaaGreat.findMore
namespace Go.Proofs.YthdenkkllpkplaaGreat
/-- The row, under a short name, for the claim. -/
theorem findMore_holds : Rows.FindMoreSaid := findMore.proved
#print axioms findMore_holds
end Go.Proofs.YthdenkkllpkplaaGreat
end
