import Derived.Deep.RegionHeld3
import Derived.Test.YtmbhkkophkccbaaGreatRows
import Derived.WalkKit
import Derived.ProofKit
import Derived.OpenShut
import Derived.ShutString
import Derived.ChangeOld
import Derived.Below
import Derived.SizedLaws
import Derived.Test.YtmbhkkophkccbaaGreatC24
import Derived.Test.YtmbhkkophkccbaaGreatC26
import Derived.Test.YtmbhkkophkccbaaGreatC28
import Derived.Test.YtmbhkkophkccbaaGreatC25
import Derived.Test.YtmbhkkophkccbaaGreatC08
section
namespace Go.Proofs.YtmbhkkophkccbaaGreat.LTells
open Go Go.RowKit Go.Proofs.YtmbhkkophkccbaaGreat.Seq WS FS Mem Rd Shapes Word FFam Grown Fn Pa Fi
set_option linter.unusedVariables false
set_option linter.unusedSimpArgs false
theorem may_attrs {f : Fo} (hm : mayB f = true) : ∀ n ∈ f, n.attrs.length ≤ 1000 := fun n hn => by
 obtain ⟨i, hi, rfl⟩ := List.mem_iff_getElem.1 hn
 have h := ((may_is hm).node i hi).1
 rw [at_nat hi] at h
 unfold plainB at h
 split at h
 ·simp only [Bool.and_eq_true, decide_eq_true_eq] at h
  rw [h.2]; simp
 ·split at h
  ·simp only [Bool.and_eq_true] at h
   have := ((attrsB_iff _).1 h.2).2.2
   omega
  ·split at h
   ·simp only [Bool.and_eq_true, decide_eq_true_eq] at h
    rw [h.1.2]; simp
   ·cases h
theorem smS_of {l : Sel} (h : fewB l = true) : SmS l := by
 unfold fewB smL at h
 rw [Bool.and_eq_true] at h
 intro r hr x hx t ht
 have h1 := List.all_eq_true.1 (List.all_eq_true.1 (List.all_eq_true.1 h.1 r hr) x hx) t ht
 unfold smT at h1
 rw [Bool.and_eq_true, decide_eq_true_eq] at h1
 omega
set_option maxRecDepth 100000 in
set_option maxHeartbeats 8000000 in
theorem law_calls (w : World) (l : List Opn) (v : Value) (h : RdO w.heap.size w v l) (s : Sel) (vs : Value) (hs : RdSel w.heap.size w vs s) (hz : ZSel s) (top : Int) (hwi : (Lit.int .i64 top).wf = true) :
  Calls Tryz.prog 3 #[v, vs, .int .i64 top] w fun e w' => e = .returned (.bool true) ∧ Below w.heap.size w w' := by
 have hO := fun w' (hb : Below w.heap.size w w') => (h.below opE_keeps (w' := w') hb (Nat.le_refl _)).mono opE_keeps hb.size
 have hbn := Fi.bounded_calls w v l (hO w (Below.refl _ _))
 have hgr := fun w' (hb : Below w.heap.size w w') => Fi.grown_calls w' v l (hO w' hb)
 unfold Fi.GrownPost at hgr
 have hfw := few_calls w _ _ hs
 have hrl := fun w' (hb : Below w.heap.size w w') => (hs.below rowE_keeps (w' := w') hb (Nat.le_refl _)).mono rowE_keeps hb.size
 obtain ⟨A0, c0, rfl, hl0, hc0, _⟩ := h.form
 obtain ⟨As, cs, rfl, hls, hcs, _⟩ := hs.form
 simp only [maxLen] at hc0 hcs
 have Hgr := Lib.hid hgr; have Hrl := Lib.hid hrl; have Hz := Lib.hid hz; have Hwi := Lib.hid hwi
 clear hgr hrl hO hs h hz hwi
 by_cases hB : bndO l = true ∧ fewB s = true
 ·obtain ⟨hB, hF⟩ := hB
  rw [hB] at hbn
  rw [hF] at hfw
  have hm := grow_may l
  have hsm := Fi.grow_sm hB
  have hsms := smS_of hF
  obtain ⟨f, hf⟩ : ∃ f, f = growF l := ⟨_, rfl⟩
  rw [← hf] at hm hsm
  have hgr' := Hgr.out
  simp only [← hf] at hgr'
  have hlen := may_len hm
  have Hbn := Lib.hid hbn; have Hfw := Lib.hid hfw; have Hg := Lib.hid hgr'; have Hm := Lib.hid hm; have Hsm := Lib.hid hsm; have Hsms := Lib.hid hsms
  clear hbn hfw hgr' Hgr hm hsm hsms hB hF hf
  go_enter Tryz.func3, Tryz.ntmps3
  go_upto_region 4 with (first | (go_at_call 12; (with_reducible refine (Hbn.out).mono ?_); rintro e w5 ⟨rfl, rfl⟩; clear Hbn) | (go_at_call 13; (with_reducible refine (Hfw.out).mono ?_); rintro e w5 ⟨rfl, rfl⟩; clear Hfw) | (go_at_call 14; (with_reducible refine (Fi.shown_calls _).mono ?_); rintro e w6 ⟨rfl, hb6⟩; have Hb6 := Lib.hid hb6; clear hb6) | (go_at_call 15; (with_reducible refine (Hg.out _ Hb6.out).mono ?_); rintro e w7 ⟨v7, rfl, hr7, hb7⟩; have Hr7 := Lib.hid hr7; have Hb7 := Lib.hid (bthen Hb6.out hb7); clear hr7 hb7))
  obtain ⟨bn, on, c7, rfl, hl7, hc7⟩ := slice_some Hr7.out (by omega)
  simp only [maxLen] at hc7
  have hits := ItsA.its_calls w7 _ f Hr7.out (by omega) (may_attrs Hm.out)
  have Hits := Lib.hid hits
  clear hits
  go_upto_region 5 with (go_at_call 16; (with_reducible refine (Hits.out).mono ?_); rintro e w8 ⟨v8, rfl, hr8, hb8⟩; have Hr8 := Lib.hid hr8.rd; have Hb8 := Lib.hid hb8; clear hr8 hb8)
  obtain ⟨br, or_, c8, rfl, hl8, hc8⟩ := slice_some Hr8.out (by omega)
  simp only [maxLen] at hc8
  have hrd := fun w' (hb : Below w8.heap.size w8 w') => (Hr7.out.below nodeE_keeps (w' := w') (bthen Hb8.out hb) (Nat.le_refl _)).mono nodeE_keeps (bthen Hb8.out hb).size
  have hrr := fun w' (hb : Below w8.heap.size w8 w') => (Hr8.out.below nodeE_keeps (w' := w') hb (Nat.le_refl _)).mono nodeE_keeps hb.size
  have hrl := fun w' (hb : Below w8.heap.size w8 w') => Hrl.out w' (bthen Hb7.out (bthen Hb8.out hb))
  have hall := fun w' (hb : Below w8.heap.size w8 w') => All_calls w' _ f (hrd w' hb) Hm.out Hsm.out top Hwi.out _ _ (hrl w' hb) Hsms.out
  have hfst := fun w' (hb : Below w8.heap.size w8 w') => First_calls w' _ f (hrd w' hb) Hm.out Hsm.out top Hwi.out _ _ (hrl w' hb) Hsms.out
  have his := fun w' (hb : Below w8.heap.size w8 w') => Is_calls w' _ f (hrd w' hb) Hm.out Hsm.out top _ _ (hrl w' hb) Hsms.out
  have hrows := fun w' (hb : Below w8.heap.size w8 w') => rows_calls w' _ s (hrl w' hb) Hz.out
  have hral := fun w' (hb : Below w8.heap.size w8 w') us (hv : RdSel w'.heap.size w' us s) => R10.All_calls w' _ f (hrr w' hb) Hm.out Hsm.out top Hwi.out us s hv Hsms.out
  have hrfs := fun w' (hb : Below w8.heap.size w8 w') us (hv : RdSel w'.heap.size w' us s) => R10.First_calls w' _ f (hrr w' hb) Hm.out Hsm.out top Hwi.out us s hv Hsms.out
  have hris := fun w' (hb : Below w8.heap.size w8 w') us (hv : RdSel w'.heap.size w' us s) => R10.Is_calls w' _ f (hrr w' hb) Hm.out Hsm.out top us s hv Hsms.out
  have hint := fun w' u u2 (hu : RdL (intE .i64) 1 w'.heap.size w' u (allS f top s)) (hu2 : RdL (intE .i64) 1 w'.heap.size w' u2 (allS f top s)) => FSame.RefInts_calls w' u u2 _ _ hu hu2
  generalize firstS ((Wk.orderL f top).find? (fun i => isS f i s)) = F at *
  generalize allS f top s = L at *
  generalize isS f top s = I at *
  obtain ⟨K, Fb⟩ := F
  simp only [decide_true] at hint hfst hrfs
  have Hrd := Lib.hid hrd; have Hrr := Lib.hid hrr; have Hrl := Lib.hid hrl; have Hall := Lib.hid hall; have Hfst := Lib.hid hfst; have His := Lib.hid his; have Hrows := Lib.hid hrows; have Hral := Lib.hid hral; have Hrfs := Lib.hid hrfs; have Hris := Lib.hid hris; have Hint := Lib.hid hint
  clear hrd hrr hrl hall hfst his hrows hral hrfs hris hint
  have Hc := Lib.hid (Below.refl w8.heap.size w8)
  go_upto_region 10 with (first
   | (go_at_call 17; (with_reducible refine (Hall.out _ Hc.out).mono ?_); rintro e w20 ⟨u20, rfl, hu20, hb⟩; obtain ⟨A20, c20, rfl, _, _, _⟩ := id hu20; have Ha := Lib.hid hu20; clear hu20; have Hd := Lib.hid (bthen Hc.out hb); clear Hc; have Hc := Hd; clear Hd; clear hb)
   | (go_at_call 18; (with_reducible refine (Hfst.out _ Hc.out).mono ?_); rintro e w21 ⟨rfl, hb⟩; have Hd := Lib.hid (bthen Hc.out hb); clear Hc; have Hc := Hd; clear Hd; have Hd := Lib.hid ((Ha.out.below (intE_keeps _) hb (Nat.le_refl _)).mono (intE_keeps _) hb.size); clear Ha; have Ha := Hd; clear Hd; clear hb)
   | (go_at_call 20; (with_reducible refine (Hrows.out _ Hc.out).mono ?_); rintro e w22 ⟨u22, rfl, hu22, hb⟩; obtain ⟨A22, c22, rfl, _, _, _⟩ := hu22.form; (try clear Hrw); have Hrw := Lib.hid hu22; clear hu22; have Hd := Lib.hid (bthen Hc.out hb); clear Hc; have Hc := Hd; clear Hd; have Hd := Lib.hid ((Ha.out.below (intE_keeps _) hb (Nat.le_refl _)).mono (intE_keeps _) hb.size); clear Ha; have Ha := Hd; clear Hd; clear hb)
   | (go_at_call 19; (with_reducible refine (Hrfs.out _ Hc.out _ Hrw.out).mono ?_); rintro e w23 ⟨rfl, hb⟩; clear Hrw; have Hd := Lib.hid (bthen Hc.out hb); clear Hc; have Hc := Hd; clear Hd; have Hd := Lib.hid ((Ha.out.below (intE_keeps _) hb (Nat.le_refl _)).mono (intE_keeps _) hb.size); clear Ha; have Ha := Hd; clear Hd; clear hb)
   | (go_at_call 22; (with_reducible refine (Hral.out _ Hc.out _ Hrw.out).mono ?_); rintro e w24 ⟨u24, rfl, hu24, hb⟩; clear Hrw; obtain ⟨A24, c24, rfl, _, _, _⟩ := id hu24; have Hu24 := Lib.hid hu24; clear hu24; have Hd := Lib.hid (bthen Hc.out hb); clear Hc; have Hc := Hd; clear Hd; have Hd := Lib.hid ((Ha.out.below (intE_keeps _) hb (Nat.le_refl _)).mono (intE_keeps _) hb.size); clear Ha; have Ha := Hd; clear Hd; clear hb)
   | (go_at_call 21; (with_reducible refine (Hint.out _ _ _ Ha.out Hu24.out).mono ?_); rintro e w25 ⟨rfl, hb⟩; clear Hu24; have Hd := Lib.hid (bthen Hc.out hb); clear Hc; have Hc := Hd; clear Hd; have Hd := Lib.hid ((Ha.out.below (intE_keeps _) hb (Nat.le_refl _)).mono (intE_keeps _) hb.size); clear Ha; have Ha := Hd; clear Hd; clear hb)
   | (go_at_call 23; (with_reducible refine (His.out _ Hc.out).mono ?_); rintro e w26 ⟨rfl, hb⟩; have Hd := Lib.hid (bthen Hc.out hb); clear Hc; have Hc := Hd; clear Hd; have Hd := Lib.hid ((Ha.out.below (intE_keeps _) hb (Nat.le_refl _)).mono (intE_keeps _) hb.size); clear Ha; have Ha := Hd; clear Hd; clear hb)
   | (go_at_call 24; (with_reducible refine (Hris.out _ Hc.out _ Hrw.out).mono ?_); rintro e w27 ⟨rfl, hb⟩; clear Hrw; have Hd := Lib.hid (bthen Hc.out hb); clear Hc; have Hc := Hd; clear Hd; have Hd := Lib.hid ((Ha.out.below (intE_keeps _) hb (Nat.le_refl _)).mono (intE_keeps _) hb.size); clear Ha; have Ha := Hd; clear Hd; clear hb))
  go_wp2_with fail
  go_loopw [14] (fun i wr => ∃ k : Nat, k ≤ f.length ∧ i = .int .i64 k ∧ Hid (Below w8.heap.size w8 wr)) (fun i _ => f.length - (intOf i).toNat)
  case atStart => exact ⟨0, Nat.zero_le _, rfl, Hc⟩
  case round =>
   obtain ⟨k, hk, rfl, hb⟩ := hrel
   by_cases hlt : k < f.length
   ·have hlt0 : (k : Int) < (f.length : Int) := by omega
    have hk0 : (0 : Int) ≤ (k : Int) := by omega
    go_wp2_with fail
    go_loopw [15] (fun i wr => ∃ p : Nat, p ≤ s.length ∧ i = .int .i64 p ∧ Hid (Below w8.heap.size w8 wr)) (fun i _ => s.length - (intOf i).toNat)
    case atStart => exact ⟨0, Nat.zero_le _, rfl, hb⟩
    case round =>
     obtain ⟨p, hp, rfl, hb2⟩ := hrel
     by_cases hpl : p < s.length
     ·have hpl0 : (p : Int) < (s.length : Int) := by omega
      have hp0 : (0 : Int) ≤ (p : Int) := by omega
      obtain ⟨R, hR⟩ : ∃ R, R = s[p] := ⟨_, rfl⟩
      have HR := Lib.hid hR
      clear hR
      go_wp2_with fail
      go_loopw [16] (fun i wr => ∃ q : Nat, q ≤ R.length ∧ i = .int .i64 q ∧ Hid (Below w8.heap.size w8 wr)) (fun i _ => R.length - (intOf i).toNat)
      case atStart => exact ⟨0, Nat.zero_le _, rfl, hb2⟩
      case round =>
       obtain ⟨q, hq, rfl, hb3⟩ := hrel
       obtain ⟨bs, os, At, ct, eA, hbs, r0, hrow, hct, hct2⟩ := row_at (Hrl.out wr hb3.out) hpl
       subst eA
       rw [← HR.out] at r0 hrow hct
       simp only [maxLen] at hct2
       by_cases hql : q < R.length
       ·have hql0 : (q : Int) < (R.length : Int) := by omega
        have hq0 : (0 : Int) ≤ (q : Int) := by omega
        obtain ⟨b2, o2, Ac, cc, eAt, hbb2, t0, t1, htest, _, _⟩ := step_at hrow hql
        subst eAt
        obtain ⟨va1, vk1, ⟨V1, V2, V3, rfl⟩, ⟨V4, V5, V6, rfl⟩, hc1, hf1⟩ := fits_at (Hrd.out wr hb3.out) Hsm.out hlt
        obtain ⟨va2, vk2, ⟨U1, U2, U3, rfl⟩, ⟨U4, U5, U6, rfl⟩, hc2, hf2⟩ := R10.rfits_at (Hrr.out wr hb3.out) Hsm.out hlt
        have hsc : SmC R[q].c := Hsms.out R (by rw [HR.out]; exact List.getElem_mem hpl) _ (List.getElem_mem hql)
        obtain ⟨C, hC⟩ : ∃ C, C = R[q].c := ⟨_, rfl⟩
        rw [← hC] at t0 htest hsc
        have hta := fun w' (hb : Below wr.heap.size wr w') => (htest.below testE_keeps (w' := w') hb (Nat.le_refl _)).mono testE_keeps hb.size
        have hfa := fun w' hb => hf1 w' hb _ C (hta w' hb) hsc
        have hfb := fun w' hb vc hv => hf2 w' hb vc C hv hsc
        unfold SoPost at hfa hfb
        have hcl := fun w' (hb : Below wr.heap.size wr w') => And.intro (hc1 w' hb) (And.intro (hc2 w' hb) (And.intro (cell_grow hb r0) (cell_grow hb t0)))
        unfold Cells6 at hcl
        have hrw := fun w' (hb : Below wr.heap.size wr w') => Hrows.out w' (bthen hb3.out hb)
        generalize fitsC (at_ f (k : Int)) C = X at *
        generalize at_ f (k : Int) = nd at *
        obtain ⟨_, _, z0, z1⟩ := hcl wr (Below.refl _ _)
        have Hfa := Lib.hid hfa; have Hfb := Lib.hid hfb; have Hcl := Lib.hid hcl; have Hrw := Lib.hid hrw; have HC := Lib.hid hC
        clear hfa hfb hcl hrw hC hta htest hsc hc1 hc2 hf1 hf2 r0 t0 t1 hrow
        go_upto_region 19 with fail
        refine wp_region_held_drew (S := fun w' => (w'.cell? ⟨bn, on + k * 6, none⟩ = some (.int .i64 nd.kind) ∧ w'.cell? ⟨bn, on + k * 6 + 1, none⟩ = some (.string nd.name) ∧ w'.cell? ⟨bn, on + k * 6 + 2, none⟩ = some (.string nd.text) ∧ w'.cell? ⟨bn, on + k * 6 + 3, none⟩ = some (.slice V1 V2 V3) ∧ w'.cell? ⟨bn, on + k * 6 + 4, none⟩ = some (.int .i64 nd.parent) ∧ w'.cell? ⟨bn, on + k * 6 + 5, none⟩ = some (.slice V4 V5 V6)) ∧ (w'.cell? ⟨br, or_ + k * 6, none⟩ = some (.int .i64 nd.kind) ∧ w'.cell? ⟨br, or_ + k * 6 + 1, none⟩ = some (.string nd.name) ∧ w'.cell? ⟨br, or_ + k * 6 + 2, none⟩ = some (.string nd.text) ∧ w'.cell? ⟨br, or_ + k * 6 + 3, none⟩ = some (.slice U1 U2 U3) ∧ w'.cell? ⟨br, or_ + k * 6 + 4, none⟩ = some (.int .i64 nd.parent) ∧ w'.cell? ⟨br, or_ + k * 6 + 5, none⟩ = some (.slice U4 U5 U6)) ∧ w'.cell? ⟨bs, os + p, none⟩ = some (.slice (some ⟨b2, o2, none⟩) R.length ct) ∧ w'.cell? ⟨b2, o2 + q * 2, none⟩ = some (.slice Ac C.length cc)) (by kernel_rfl) (Hcl.out _ (Below.refl _ wr).drew) (fun hHeld => ?_)
        have HbD := Lib.hid (Below.refl wr.heap.size wr).drew
        obtain ⟨wD, hwD⟩ : ∃ x, wr.drew = x := ⟨_, rfl⟩
        rw [hwD] at hHeld HbD ⊢
        clear hwD
        refine' wpAnyH_take (i := 0) (v := ?v0) rfl (by kernel_rfl) (by kernel_rfl) (by kernel_rfl) (fun _ _ _ h => h) (Or.inl ⟨by kernel_rfl, ?hy0⟩) (by assumption) ?rest0
        case hy0 => (intro w hSw; (try dsimp only at hSw); go_simp; (try with_reducible rfl))
        (try simp only [Act.put, List.getElem_toArray, List.getElem_cons_succ, List.getElem_cons_zero, List.setIfInBounds_toArray, List.set_cons_zero, List.set_cons_succ])
        refine' wpAnyH_take (i := 1) (v := ?v1) rfl (by kernel_rfl) (by kernel_rfl) (by kernel_rfl) (fun _ _ _ h => h) (Or.inl ⟨by kernel_rfl, ?hy1⟩) (by assumption) ?rest1
        case hy1 => (intro w hSw; (try dsimp only at hSw); go_simp; (try with_reducible rfl))
        (try simp only [Act.put, List.getElem_toArray, List.getElem_cons_succ, List.getElem_cons_zero, List.setIfInBounds_toArray, List.set_cons_zero, List.set_cons_succ])
        refine' wpAnyH_take (i := 2) (v := ?v2) rfl (by kernel_rfl) (by kernel_rfl) (by kernel_rfl) (fun _ _ _ h => h) (Or.inl ⟨by kernel_rfl, ?hy2⟩) (by assumption) ?rest2
        case hy2 => (intro w hSw; (try dsimp only at hSw); go_simp; (try with_reducible rfl))
        (try simp only [Act.put, List.getElem_toArray, List.getElem_cons_succ, List.getElem_cons_zero, List.setIfInBounds_toArray, List.set_cons_zero, List.set_cons_succ])
        refine' wpAnyH_take (i := 3) (v := ?v3) rfl (by kernel_rfl) (by kernel_rfl) (by kernel_rfl) (fun _ _ _ h => h) (Or.inl ⟨by kernel_rfl, ?hy3⟩) (by assumption) ?rest3
        case hy3 => (intro w hSw; (try dsimp only at hSw); go_simp; (try with_reducible rfl))
        (try simp only [Act.put, List.getElem_toArray, List.getElem_cons_succ, List.getElem_cons_zero, List.setIfInBounds_toArray, List.set_cons_zero, List.set_cons_succ])
        refine' wpAnyH_take (i := 4) (v := ?v4) rfl (by kernel_rfl) (by kernel_rfl) (by kernel_rfl) (fun _ _ _ h => h) (Or.inl ⟨by kernel_rfl, ?hy4⟩) (by assumption) ?rest4
        case hy4 => (intro w hSw; (try dsimp only at hSw); go_simp; (try with_reducible rfl))
        (try simp only [Act.put, List.getElem_toArray, List.getElem_cons_succ, List.getElem_cons_zero, List.setIfInBounds_toArray, List.set_cons_zero, List.set_cons_succ])
        refine' wpAnyH_take (i := 5) (v := ?v5) rfl (by kernel_rfl) (by kernel_rfl) (by kernel_rfl) (fun _ _ _ h => h) (Or.inl ⟨by kernel_rfl, ?hy5⟩) (by assumption) ?rest5
        case hy5 => (intro w hSw; (try dsimp only at hSw); go_simp; (try with_reducible rfl))
        (try simp only [Act.put, List.getElem_toArray, List.getElem_cons_succ, List.getElem_cons_zero, List.setIfInBounds_toArray, List.set_cons_zero, List.set_cons_succ])
        refine' wpAnyH_take (i := 6) (v := ?v6) rfl (by kernel_rfl) (by kernel_rfl) (by kernel_rfl) (fun _ _ _ h => h) (Or.inl ⟨by kernel_rfl, ?hy6⟩) (by assumption) ?rest6
        case hy6 => (intro w hSw; (try dsimp only at hSw); go_simp; (try with_reducible rfl))
        (try simp only [Act.put, List.getElem_toArray, List.getElem_cons_succ, List.getElem_cons_zero, List.setIfInBounds_toArray, List.set_cons_zero, List.set_cons_succ])
        refine' wpAnyH_take (i := 7) (v := ?v7) rfl (by kernel_rfl) (by kernel_rfl) (by kernel_rfl) (fun _ _ _ h => h) (Or.inl ⟨by kernel_rfl, ?hy7⟩) (by assumption) ?rest7
        case hy7 => (intro w hSw; (try dsimp only at hSw); go_simp; (try with_reducible rfl))
        (try simp only [Act.put, List.getElem_toArray, List.getElem_cons_succ, List.getElem_cons_zero, List.setIfInBounds_toArray, List.set_cons_zero, List.set_cons_succ])
        refine' wpAnyH_take (i := 8) (v := ?v8) rfl (by kernel_rfl) (by kernel_rfl) (by kernel_rfl) (fun _ _ _ h => h) (Or.inl ⟨by kernel_rfl, ?hy8⟩) (by assumption) ?rest8
        case hy8 => (intro w hSw; (try dsimp only at hSw); go_simp; (try with_reducible rfl))
        (try simp only [Act.put, List.getElem_toArray, List.getElem_cons_succ, List.getElem_cons_zero, List.setIfInBounds_toArray, List.set_cons_zero, List.set_cons_succ])
        refine' wpAnyH_take (i := 9) (v := ?v9) rfl (by kernel_rfl) (by kernel_rfl) (by kernel_rfl) (fun _ _ _ h => h) (Or.inl ⟨by kernel_rfl, ?hy9⟩) (by assumption) ?rest9
        case hy9 => (intro w hSw; (try dsimp only at hSw); go_simp; (try with_reducible rfl))
        (try simp only [Act.put, List.getElem_toArray, List.getElem_cons_succ, List.getElem_cons_zero, List.setIfInBounds_toArray, List.set_cons_zero, List.set_cons_succ])
        refine' wpAnyH_take (i := 10) (v := ?v10) rfl (by kernel_rfl) (by kernel_rfl) (by kernel_rfl) (fun _ _ _ h => h) (Or.inl ⟨by kernel_rfl, ?hy10⟩) (by assumption) ?rest10
        case hy10 => (intro w hSw; (try dsimp only at hSw); go_simp; (try with_reducible rfl))
        (try simp only [Act.put, List.getElem_toArray, List.getElem_cons_succ, List.getElem_cons_zero, List.setIfInBounds_toArray, List.set_cons_zero, List.set_cons_succ])
        refine' wpAnyH_take (i := 11) (v := ?v11) rfl (by kernel_rfl) (by kernel_rfl) (by kernel_rfl) (fun _ _ _ h => h) (Or.inl ⟨by kernel_rfl, ?hy11⟩) (by assumption) ?rest11
        case hy11 => (intro w hSw; (try dsimp only at hSw); go_simp; (try with_reducible rfl))
        (try simp only [Act.put, List.getElem_toArray, List.getElem_cons_succ, List.getElem_cons_zero, List.setIfInBounds_toArray, List.set_cons_zero, List.set_cons_succ])
        refine' wpAnyH_take (i := 13) (v := ?v13) rfl (by kernel_rfl) (by kernel_rfl) (by kernel_rfl) (fun _ _ _ h => h) (Or.inl ⟨by kernel_rfl, ?hy13⟩) (by assumption) ?rest13
        case hy13 => (intro w hSw; (try dsimp only at hSw); go_simp; (try with_reducible rfl))
        (try simp only [Act.put, List.getElem_toArray, List.getElem_cons_succ, List.getElem_cons_zero, List.setIfInBounds_toArray, List.set_cons_zero, List.set_cons_succ])
        refine' wpAnyH_take (i := 14) (v := ?v14) rfl (by kernel_rfl) (by kernel_rfl) (by kernel_rfl) (fun _ _ _ h => h) (Or.inl ⟨by kernel_rfl, ?hy14⟩) (by assumption) ?rest14
        case hy14 => (intro w hSw; (try dsimp only at hSw); go_simp; (try with_reducible rfl))
        (try simp only [Act.put, List.getElem_toArray, List.getElem_cons_succ, List.getElem_cons_zero, List.setIfInBounds_toArray, List.set_cons_zero, List.set_cons_succ])
        refine' wpAnyH_take (i := 15) (v := ?v15) rfl (by kernel_rfl) (by kernel_rfl) (by kernel_rfl) (fun _ _ _ h => h) (Or.inl ⟨by kernel_rfl, ?hy15⟩) (by assumption) ?rest15
        case hy15 => (intro w hSw; (try dsimp only at hSw); go_simp; (try with_reducible rfl))
        (try simp only [Act.put, List.getElem_toArray, List.getElem_cons_succ, List.getElem_cons_zero, List.setIfInBounds_toArray, List.set_cons_zero, List.set_cons_succ])
        refine' wpAnyH_take (i := 16) (v := ?v16) rfl (by kernel_rfl) (by kernel_rfl) (by kernel_rfl) (fun _ _ _ h => h) (Or.inl ⟨by kernel_rfl, ?hy16⟩) (by assumption) ?rest16
        case hy16 => (intro w hSw; (try dsimp only at hSw); go_simp; (try with_reducible rfl))
        (try simp only [Act.put, List.getElem_toArray, List.getElem_cons_succ, List.getElem_cons_zero, List.setIfInBounds_toArray, List.set_cons_zero, List.set_cons_succ])
        refine' wpAnyH_take (i := 17) (v := ?v17) rfl (by kernel_rfl) (by kernel_rfl) (by kernel_rfl) (fun _ _ _ h => h) (Or.inl ⟨by kernel_rfl, ?hy17⟩) (by assumption) ?rest17
        case hy17 => (intro w hSw; (try dsimp only at hSw); go_simp; (try with_reducible rfl))
        (try simp only [Act.put, List.getElem_toArray, List.getElem_cons_succ, List.getElem_cons_zero, List.setIfInBounds_toArray, List.set_cons_zero, List.set_cons_succ])
        refine' wpAnyH_take (i := 19) (v := ?v19) rfl (by kernel_rfl) (by kernel_rfl) (by kernel_rfl) (fun _ _ _ h => h) (Or.inl ⟨by kernel_rfl, ?hy19⟩) (by assumption) ?rest19
        case hy19 => (intro w hSw; (try dsimp only at hSw); go_simp; (try with_reducible rfl))
        (try simp only [Act.put, List.getElem_toArray, List.getElem_cons_succ, List.getElem_cons_zero, List.setIfInBounds_toArray, List.set_cons_zero, List.set_cons_succ])
        refine' wpAnyH_take (i := 22) (v := ?v22) rfl (by kernel_rfl) (by kernel_rfl) (by kernel_rfl) (fun _ _ _ h => h) (Or.inl ⟨by kernel_rfl, ?hy22⟩) (by assumption) ?rest22
        case hy22 => (intro w hSw; (try dsimp only at hSw); go_simp; (try with_reducible rfl))
        (try simp only [Act.put, List.getElem_toArray, List.getElem_cons_succ, List.getElem_cons_zero, List.setIfInBounds_toArray, List.set_cons_zero, List.set_cons_succ])
        refine wpAnyH_ready (rs := [12]) (by kernel_rfl) (by simp) ?_
        refine AllReadyH.cons (o := ?oo12) ?ho12 (fun K hK => ?_) AllReadyH.nil
        case ho12 => (simp only [List.getElem?_toArray, List.getElem?_cons_succ, List.getElem?_cons_zero]; rfl)
        refine if_want (by kernel_rfl) ?_
        go_simp
        (go_at_call 25; (with_reducible refine (Hfa.out _ HbD.out).mono ?_); rintro e w9 ⟨rfl, hb9⟩; have Hb9 := Lib.hid (bthen HbD.out hb9); clear hb9)
        refine hK.out _ _ (Hcl.out _ Hb9.out) (fun hHeld => ?_)
        clear hK K
        (try simp only [Act.put, List.getElem_toArray, List.getElem_cons_succ, List.getElem_cons_zero, List.setIfInBounds_toArray, List.set_cons_zero, List.set_cons_succ])
        refine wpAnyH_ready (rs := [18]) (by kernel_rfl) (by simp) ?_
        refine AllReadyH.cons (o := ?oo18) ?ho18 (fun K hK => ?_) AllReadyH.nil
        case ho18 => (simp only [List.getElem?_toArray, List.getElem?_cons_succ, List.getElem?_cons_zero]; rfl)
        refine if_want (by kernel_rfl) ?_
        go_simp
        (go_at_call 20; (with_reducible refine (Hrw.out _ Hb9.out).mono ?_); rintro e w22 ⟨u22, rfl, hu22, hb22⟩; have Hb22 := Lib.hid (bthen Hb9.out hb22); clear hb22)
        obtain ⟨A22, c22, rfl, hl22, hc22, _⟩ := hu22.form
        obtain ⟨b4, o4, A4, c4, eA4, _, r4, hrow4, hct4, hct42⟩ := row_at hu22 hpl
        subst eA4
        rw [← HR.out] at r4 hrow4 hct4
        simp only [maxLen] at hct42 hc22
        obtain ⟨b5, o5, A5, c5, eA5, _, t4, t5, htest4, _, _⟩ := step_at hrow4 hql
        subst eA5
        rw [← HC.out] at t4 htest4
        have hfc := fun w' (hb : Below w22.heap.size w22 w') => Hfb.out w' (bthen Hb22.out hb) _ ((htest4.below testE_keeps (w' := w') hb (Nat.le_refl _)).mono testE_keeps hb.size)
        have Hfc := Lib.hid hfc
        clear hfc htest4 hrow4 t5 hu22
        refine hK.out _ _ (Hcl.out _ Hb22.out) (fun hHeld => ?_)
        clear hK K
        (try simp only [Act.put, List.getElem_toArray, List.getElem_cons_succ, List.getElem_cons_zero, List.setIfInBounds_toArray, List.set_cons_zero, List.set_cons_succ])
        refine' wpAnyH_take (i := 20) (v := ?v20) rfl (by kernel_rfl) (by kernel_rfl) (by kernel_rfl) (fun _ _ _ h => h) (Or.inl ⟨by kernel_rfl, ?hy20⟩) (by assumption) ?rest20
        case hy20 => (intro w hSw; (try dsimp only at hSw); go_simp; (try with_reducible rfl))
        (try simp only [Act.put, List.getElem_toArray, List.getElem_cons_succ, List.getElem_cons_zero, List.setIfInBounds_toArray, List.set_cons_zero, List.set_cons_succ])
        refine wpAnyH_ready (rs := [21]) (by kernel_rfl) (by simp) ?_
        refine AllReadyH.cons (o := ?oo21) ?ho21 (fun K hK => ?_) AllReadyH.nil
        case ho21 => (simp only [List.getElem?_toArray, List.getElem?_cons_succ, List.getElem?_cons_zero]; rfl)
        refine if_want (by kernel_rfl) ?_
        go_simp
        refine hK.out _ _ (Hcl.out _ Hb22.out) (fun hHeld => ?_)
        clear hK K
        (try simp only [Act.put, List.getElem_toArray, List.getElem_cons_succ, List.getElem_cons_zero, List.setIfInBounds_toArray, List.set_cons_zero, List.set_cons_succ])
        refine' wpAnyH_take (i := 23) (v := ?v23) rfl (by kernel_rfl) (by kernel_rfl) (by kernel_rfl) (fun _ _ _ h => h) (Or.inl ⟨by kernel_rfl, ?hy23⟩) (by assumption) ?rest23
        case hy23 => (intro w hSw; (try dsimp only at hSw); go_simp; (try with_reducible rfl))
        (try simp only [Act.put, List.getElem_toArray, List.getElem_cons_succ, List.getElem_cons_zero, List.setIfInBounds_toArray, List.set_cons_zero, List.set_cons_succ])
        refine' wpAnyH_take (i := 24) (v := ?v24) rfl (by kernel_rfl) (by kernel_rfl) (by kernel_rfl) (fun _ _ _ h => h) (Or.inl ⟨by kernel_rfl, ?hy24⟩) (by assumption) ?rest24
        case hy24 => (intro w hSw; (try dsimp only at hSw); go_simp; (try with_reducible rfl))
        (try simp only [Act.put, List.getElem_toArray, List.getElem_cons_succ, List.getElem_cons_zero, List.setIfInBounds_toArray, List.set_cons_zero, List.set_cons_succ])
        refine wpAnyH_ready (rs := [25]) (by kernel_rfl) (by simp) ?_
        refine AllReadyH.cons (o := ?oo25) ?ho25 (fun K hK => ?_) AllReadyH.nil
        case ho25 => (simp only [List.getElem?_toArray, List.getElem?_cons_succ, List.getElem?_cons_zero]; rfl)
        refine if_want (by kernel_rfl) ?_
        go_simp
        refine hK.out _ _ (Hcl.out _ Hb22.out) (fun hHeld => ?_)
        clear hK K
        (try simp only [Act.put, List.getElem_toArray, List.getElem_cons_succ, List.getElem_cons_zero, List.setIfInBounds_toArray, List.set_cons_zero, List.set_cons_succ])
        refine wpAnyH_ready (rs := [26]) (by kernel_rfl) (by simp) ?_
        refine AllReadyH.cons (o := ?oo26) ?ho26 (fun K hK => ?_) AllReadyH.nil
        case ho26 => (simp only [List.getElem?_toArray, List.getElem?_cons_succ, List.getElem?_cons_zero]; rfl)
        refine if_want (by kernel_rfl) ?_
        go_simp
        (go_at_call 26; (with_reducible refine (Hfc.out _ (Below.refl _ _)).mono ?_); rintro e w30 ⟨rfl, hb30⟩; have Hb30 := Lib.hid (bthen Hb22.out hb30); clear hb30)
        refine hK.out _ _ (Hcl.out _ Hb30.out) (fun hHeld => ?_)
        clear hK K
        (try simp only [Act.put, List.getElem_toArray, List.getElem_cons_succ, List.getElem_cons_zero, List.setIfInBounds_toArray, List.set_cons_zero, List.set_cons_succ])
        refine' wpAnyH_take (i := 27) (v := ?v27) rfl (by kernel_rfl) (by kernel_rfl) (by kernel_rfl) (fun _ _ _ h => h) (Or.inl ⟨by kernel_rfl, ?hy27⟩) (by assumption) ?rest27
        case hy27 => (intro w hSw; (try dsimp only at hSw); go_simp; (try with_reducible rfl))
        (try simp only [Act.put, List.getElem_toArray, List.getElem_cons_succ, List.getElem_cons_zero, List.setIfInBounds_toArray, List.set_cons_zero, List.set_cons_succ])
        refine wpAnyH_done (by kernel_rfl) ?_ _
        go_wp2_with fail
        go_roundw
        case rel => exact ⟨q + 1, by omega, by go_num, Lib.hid (bthen hb3.out Hb30.out)⟩
        case measure => simp [intOf]; omega
       ·obtain rfl : q = R.length := by omega
        go_wp2_with fail
        go_roundw
        case rel => exact ⟨p + 1, by omega, by go_num, hb3⟩
        case measure => simp [intOf]; omega
     ·obtain rfl : p = s.length := by omega
      go_wp2_with fail
      go_roundw
      case rel => exact ⟨k + 1, by omega, by go_num, hb2⟩
      case measure => simp [intOf]; omega
   ·obtain rfl : k = f.length := by omega
    go_wp2_with fail
    go_ret
    exact ⟨rfl, bthen Hb7.out (bthen Hb8.out hb.out)⟩
 ·have hno : bndO l = false ∨ (bndO l = true ∧ fewB s = false) := by
   cases h1 : bndO l <;> cases h2 : fewB s <;> simp_all
  rcases hno with hx | ⟨hx, hy⟩
  ·rw [hx] at hbn
   have Hbn := Lib.hid hbn
   clear hbn hfw hx hB
   go_enter Tryz.func3, Tryz.ntmps3
   go_wp2_with (first | (go_at_call 12; (with_reducible refine (Hbn.out).mono ?_); rintro e w5 ⟨rfl, rfl⟩; clear Hbn) | (go_at_call 14; (with_reducible refine (Fi.shown_calls _).mono ?_); rintro e w6 ⟨rfl, hb6⟩; have Hb6 := Lib.hid hb6; clear hb6))
   go_ret
   exact ⟨rfl, Hb6.out⟩
  ·rw [hx] at hbn
   rw [hy] at hfw
   have Hbn := Lib.hid hbn; have Hfw := Lib.hid hfw
   clear hbn hfw hx hy hB
   go_enter Tryz.func3, Tryz.ntmps3
   go_wp2_with (first | (go_at_call 12; (with_reducible refine (Hbn.out).mono ?_); rintro e w5 ⟨rfl, rfl⟩; clear Hbn) | (go_at_call 13; (with_reducible refine (Hfw.out).mono ?_); rintro e w5 ⟨rfl, rfl⟩; clear Hfw) | (go_at_call 14; (with_reducible refine (Fi.shown_calls _).mono ?_); rintro e w6 ⟨rfl, hb6⟩; have Hb6 := Lib.hid hb6; clear hb6))
   go_ret
   exact ⟨rfl, Hb6.out⟩
end Go.Proofs.YtmbhkkophkccbaaGreat.LTells
end
section
namespace Go.Proofs.YtmbhkkophkccbaaGreat.findTells
open Go.ChangeShapes Go.WideShapes Go.ChangeAt Go.RowKit
open Go.ChangeMaps (open_string shut_string)
set_option linter.unusedVariables false
theorem own : ownKnob Tryz.prog.godebug = none := by kernel_rfl
theorem laidOut : laidOutB Tryz.prog = true := by kernel_rfl
set_option maxRecDepth 100000 in
theorem lifted (os : Os) (started : os.Started) (H : Type) (enc : TypeId × Value → H) :
  ReturnsInHanded {} Tryz.checked os 3 .any (Rows.findTellsSpec.pre6 enc Tryz.prog Tryz.f3 Rows.findTellsRow.domain false) (Rows.findTellsSpec.post enc Tryz.prog Tryz.f3 false true false false) := by
 refine returnsInHanded_of_change_sized (C := Tryz.checked) own started (by kernel_rfl) Tryz.func3
  (ChangeSpec.witness6 (enc := enc) (C := Tryz.checked) false ⟨#[], #[.slice none 0 0, .slice none 0 0, .int .i64 0], []⟩ 8 (by kernel_rfl) (by kernel_rfl) (by kernel_rfl) (by kernel_rfl)) ?_
 intro W base args ds gs before hval0 hW hcnd hsz0 _
 have hsz : (DataW.weightsEach Tryz.prog (Tryz.f3.params.toList ++ Rows.findTellsSpec.plain.varTypes Tryz.prog) (ds ++ gs)).all (· ≤ reachBytes) = true := hsz0
 have hval : ∀ (j : Nat) t v, Tryz.f3.params[j]? = some t → args[j]? = some v → Value.okWide Tryz.prog W .any base t v := hval0
 have hW' := hW
 obtain ⟨p, q, hA0, hV, rfl, hfz, hnd⟩ := hW
 have hA : DataW.TrodAll enc Tryz.prog W 0 (fun _ => true) true Tryz.f3.params.toList args.toList ds p := hA0
 rw [Tryz.params3] at hA hval hsz
 obtain ⟨v0, vs0, d0, ds0, p0, q0, hargs, rfl, rfl, h0, r0⟩ := trodAll_cons hA
 obtain ⟨v1, vs1, d1, ds1, p1, q1, rfl, rfl, rfl, h1, r1⟩ := trodAll_cons r0
 obtain ⟨v2, vs2, d2, ds2, p2, q2, rfl, rfl, rfl, h2, r2⟩ := trodAll_cons r1
 obtain ⟨rfl, rfl, rfl⟩ := trodAll_nil r2
 obtain rfl : args = #[v0, v1, v2] := by cases args; simp_all
 obtain ⟨rfl, rfl⟩ := trodVars_none hV
 have wt := hsz
 simp only [List.cons_append, List.nil_append, DataW.weightsEach, List.all_append, Bool.and_eq_true] at wt
 obtain ⟨wt0, wt1, wt2, _⟩ := wt
 have k0 := h0
 have lt0 : ∀ x ∈ p0, x.block < W.heap.size := by obtain ⟨m, hm⟩ := k0; exact DataW.trod_lt m _ _ _ hm
 obtain ⟨l0, x0⟩ := Rd.open_list 6 Tryz.underlying22 (by kernel_rfl) (by decide) Shapes.opens_op_Op (hval 0 22 v0 rfl rfl) h0
 have k1 := h1
 have lt1 : ∀ x ∈ p1, x.block < W.heap.size := by obtain ⟨m, hm⟩ := k1; exact DataW.trod_lt m _ _ _ hm
 obtain ⟨l1, x1, z1⟩ := Shapes.open_sel (hval 1 24 v1 rfl rfl) h1 wt1
 obtain ⟨a2, rfl, rfl, rfl, w2⟩ := open_int Tryz.underlying3 (hval 2 3 v2 rfl rfl) h2
 clear hA0 hval0 hsz0 hsz
 refine (LTells.law_calls W l0 v0 x0 l1 v1 x1 z1 a2 w2).mono fun e W' ⟨he, bel⟩ => ?_
 subst he
 exact ⟨_, rfl, _, _, _, [], _, [], hW', trodAll_mk1 (shut_bool Tryz.underlying4 _), (trodAll_cons_mk (Below.trod laidOut (by kernel_rfl) (of_decide_eq_true (by kernel_rfl)) k0 bel lt0) (trodAll_cons_mk (Below.trod laidOut (by kernel_rfl) (of_decide_eq_true (by kernel_rfl)) k1 bel lt1) (trodAll_cons_mk (shut_int Tryz.underlying3 w2) trodAll_mk0))), rfl, bel.frame _, fun h => by cases h⟩
set_option maxHeartbeats 20000000 in
theorem closed : joinedFacts Tryz.pinned.checked.prog 3 Tryz.f3 Rows.findTellsSpec Rows.findTellsRow = true := by
 unfold joinedFacts
 repeat' (with_reducible refine Bool.and_eq_true_iff.2 ⟨?_, ?_⟩)
 all_goals as_aux_lemma => kernel_rfl
theorem over : Rows.findTellsRow.holds Tryz.pinned (OpenSpec.ofChange Rows.findTellsSpec) :=
 OpenClaim.holds_of_wide 3 Tryz.f3 rfl rfl rfl rfl rfl rfl rfl ⟨rfl, rfl, rfl, rfl, rfl⟩ rfl rfl rfl rfl rfl (by kernel_rfl) Tryz.func3 closed
  (of_decide_eq_true (by kernel_rfl)) (by unfold Func.isWrapper; first | (rw [if_pos (by decide +kernel)]; kernel_rfl) | (rw [if_neg (by decide +kernel)]; exact ⟨rfl, rfl⟩))
  (fun os started H enc _ => lifted os started H enc)
theorem proved : Rows.FindTellsSaid := over
end Go.Proofs.YtmbhkkophkccbaaGreat.findTells
namespace Go.Proofs.YtmbhkkophkccbaaGreat
theorem findTells_holds : Rows.FindTellsSaid := findTells.proved
#print axioms findTells_holds
end Go.Proofs.YtmbhkkophkccbaaGreat
end
