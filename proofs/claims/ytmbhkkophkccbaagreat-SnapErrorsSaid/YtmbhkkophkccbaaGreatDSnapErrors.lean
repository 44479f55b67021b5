import Derived.Deep.RegionHeld3
import Derived.Test.YtmbhkkophkccbaaGreatRows
import Derived.WalkKit
import Derived.ProofKit
import Derived.OpenShut
import Derived.ShutString
import Derived.ChangeOld
import Derived.Below
import Derived.SizedLaws
import Derived.Test.YtmbhkkophkccbaaGreatC28
section
namespace Go.Proofs.YtmbhkkophkccbaaGreat.LSErr
open Go Go.RowKit Go.Proofs.YtmbhkkophkccbaaGreat.Seq WS FS Mem Rd Shapes Word FFam Wk Fn Pa Hs Grown Sn
set_option linter.unusedVariables false
set_option linter.unusedSimpArgs false
set_option maxRecDepth 100000 in
set_option maxHeartbeats 8000000 in
theorem law_calls (w : World) (l : List Opn) (v : Value) (h : RdO w.heap.size w v l) (q : Qy) (hq : QyOk q) :
  Calls Tryz.prog 7 #[v, qyV q] w fun e w' => e = .returned (.bool true) ∧ Below w.heap.size w w' := by
 obtain ⟨w1, hw1⟩ : ∃ w1, w.alloc (.cells (qyC q) 69) = w1 := ⟨_, rfl⟩
 have q1 : w1.heap[w.heap.size]? = some (.cells (qyC q) 69 (0, 0)) := by rw [← hw1]; exact World.alloc_heap_new _ _
 have hb1 : Below w.heap.size w w1 := by rw [← hw1]; exact (Below.refl _ _).alloc (Nat.le_refl _) _
 have hO := fun w' (hb : Below w1.heap.size w1 w') => (h.below opE_keeps (w' := w') (bthen hb1 hb) (Nat.le_refl _)).mono opE_keeps (bthen hb1 hb).size
 have hbn := S13.bounded_calls w1 v l (hO w1 (Below.refl _ _))
 have hgr := fun w' (hb : Below w1.heap.size w1 w') => S13.grown_calls w' v l (hO w' hb)
 unfold S13.GrownPost at hgr
 have hS := fun w' (hb : Below w1.heap.size w1 w') => qy_cells ((hb.block _ (lt_heap q1)).trans q1)
 obtain ⟨c0, c1, c2, c3⟩ := hS w1 (Below.refl _ _)
 obtain ⟨A0, c00, rfl, hl0, hc0, _⟩ := h.form
 simp only [maxLen] at hc0
 have Hlt := Lib.hid (lt_heap q1)
 have Hw1 := Lib.hid hw1; have Hb1 := Lib.hid hb1; have HS := Lib.hid hS; have Hgr := Lib.hid hgr; have Hq := Lib.hid hq
 clear hw1 q1 hb1 hO hgr hS h hq
 cases hB : bndO l with
 | false =>
  rw [hB] at hbn
  have Hbn := Lib.hid hbn
  clear hbn hB
  go_enter Tryz.func7, Tryz.ntmps7
  go_upto_region 1 with fail
  rw [Hw1.out]
  go_wp2_with (first | (go_at_call 28; (with_reducible refine (Hbn.out).mono ?_); rintro e w5 ⟨rfl, rfl⟩) | (go_at_call 29; (with_reducible refine (S13.shown_calls _).mono ?_); rintro e w6 ⟨rfl, hb6⟩; have Hb6 := Lib.hid hb6; clear hb6))
  go_ret
  exact ⟨rfl, bthen Hb1.out Hb6.out⟩
 | true =>
  rw [hB] at hbn
  have Hbn := Lib.hid hbn
  clear hbn hB
  by_cases ht : 100 < q.text.size
  ·have ht2 : 100 < (q.text.size : Int) := by omega
   go_enter Tryz.func7, Tryz.ntmps7
   go_upto_region 1 with fail
   rw [Hw1.out]
   go_wp2_with (first | (go_at_call 28; (with_reducible refine (Hbn.out).mono ?_); rintro e w5 ⟨rfl, rfl⟩) | (go_at_call 29; (with_reducible refine (S13.shown_calls _).mono ?_); rintro e w6 ⟨rfl, hb6⟩; have Hb6 := Lib.hid hb6; clear hb6))
   go_ret
   exact ⟨rfl, bthen Hb1.out Hb6.out⟩
  ·have ht2 : ¬ 100 < (q.text.size : Int) := by omega
   have hm := grow_may l
   obtain ⟨f, hf⟩ : ∃ f, f = growF l := ⟨_, rfl⟩
   rw [← hf] at hm
   have hgr2 := Hgr.out
   simp only [← hf] at hgr2
   obtain ⟨a, ha⟩ : ∃ a, a = ofA f q := ⟨_, rfl⟩
   have hof := fun w' vf (hr : RdF w'.heap.size w' vf f) => (show Calls Tryz.prog 31 #[vf, qyV q] w' (AnsPost a w') from by
    obtain ⟨A, c, rfl, _, _, hr'⟩ := hr.form
    rw [ha]
    exact Of_calls w' A c q f hr' hm Hq.out (by omega))
   have Hg := Lib.hid hgr2; have Hof := Lib.hid hof; have Ha := Lib.hid ha; have Hm := Lib.hid hm
   clear hgr2 hof ha hm hf Hgr
   go_enter Tryz.func7, Tryz.ntmps7
   go_upto_region 1 with fail
   rw [Hw1.out]
   go_upto_region 3 with (first | (go_at_call 28; (with_reducible refine (Hbn.out).mono ?_); rintro e w5 ⟨rfl, rfl⟩) | (go_at_call 29; (with_reducible refine (S13.shown_calls _).mono ?_); rintro e w6 ⟨rfl, hb6⟩; have Hb6 := Lib.hid hb6; clear hb6))
   have Hb16 := Lib.hid Hb6.out
   clear c0 c1 c2 c3
   go_cut [5] from 20 (fun v wx => ∃ (N5 : Nat) (A : Option Addr) (c : Nat), v = .pointer (some ⟨N5, 0, none⟩) ∧ Hid (wx.heap[N5]? = some (.cells #[.slice A a.nums.length c, .string a.text, .int .i64 a.e] 71 (0, 0))) ∧ Hid (Below w6.heap.size w6 wx))
   case first =>
    refine wp_region_held_drew (S := (fun w' => w'.cell? ⟨w.heap.size, 0, none⟩ = some (.int .i64 q.kind) ∧ w'.cell? ⟨w.heap.size, 1, none⟩ = some (.int .i64 q.id) ∧ w'.cell? ⟨w.heap.size, 2, none⟩ = some (.int .i64 q.by_) ∧ w'.cell? ⟨w.heap.size, 3, none⟩ = some (.string q.text))) (by kernel_rfl) (HS.out _ Hb16.out.drew) (fun hHeld => ?_)
    obtain ⟨wD, hwD⟩ : ∃ x, w6.drew = x := ⟨_, rfl⟩
    have HBwD : Hid (Below w6.heap.size w6 wD) := Lib.hid (by rw [← hwD]; exact (Below.refl _ _).drew)
    rw [hwD] at hHeld ⊢
    clear hwD
    refine' wpAnyH_take (i := 0) (v := ?v0x1) rfl (by kernel_rfl) (by kernel_rfl) (by kernel_rfl) (fun _ _ _ h => h) (Or.inl ⟨by kernel_rfl, ?hy0x1⟩) (by assumption) ?rest0x1
    case hy0x1 => (intro w hSw; (try dsimp only at hSw); go_simp; (try with_reducible rfl))
    (try simp only [Act.put, List.getElem_toArray, List.getElem_cons_succ, List.getElem_cons_zero, List.setIfInBounds_toArray, List.set_cons_zero, List.set_cons_succ])
    refine' wpAnyH_take (i := 2) (v := ?v2x2) rfl (by kernel_rfl) (by kernel_rfl) (by kernel_rfl) (fun _ _ _ h => h) (Or.inl ⟨by kernel_rfl, ?hy2x2⟩) (by assumption) ?rest2x2
    case hy2x2 => (intro w hSw; (try dsimp only at hSw); go_simp; (try with_reducible rfl))
    (try simp only [Act.put, List.getElem_toArray, List.getElem_cons_succ, List.getElem_cons_zero, List.setIfInBounds_toArray, List.set_cons_zero, List.set_cons_succ])
    refine wpAnyH_ready (rs := [1, 4]) (by kernel_rfl) (by simp) ?_
    refine AllReadyH.cons (o := ?oo3) ?ho3 (fun K hK => ?_) (AllReadyH.cons (o := ?oo4) ?ho4 (fun K hK => ?_) AllReadyH.nil)
    case ho3 => (simp only [List.getElem?_toArray, List.getElem?_cons_succ, List.getElem?_cons_zero]; rfl)
    case ho4 => (simp only [List.getElem?_toArray, List.getElem?_cons_succ, List.getElem?_cons_zero]; rfl)
    ·refine if_want (by kernel_rfl) ?_
     go_simp
     (go_at_call 30; (with_reducible refine (Hg.out _ (bthen Hb16.out HBwD.out)).mono ?_); rintro e w7 ⟨v7, rfl, hr7, hb7⟩; have Hr7 := Lib.hid hr7; have HBw7 := Lib.hid (bthen HBwD.out hb7); clear hr7 hb7)
     refine hK.out _ _ (HS.out _ (bthen Hb16.out HBw7.out)) (fun hHeld => ?_)
     clear hK K
     (try simp only [Act.put, List.getElem_toArray, List.getElem_cons_succ, List.getElem_cons_zero, List.setIfInBounds_toArray, List.set_cons_zero, List.set_cons_succ])
     refine wpAnyH_ready (rs := [3, 4]) (by kernel_rfl) (by simp) ?_
     refine AllReadyH.cons (o := ?oo8) ?ho8 (fun K hK => ?_) (AllReadyH.cons (o := ?oo9) ?ho9 (fun K hK => ?_) AllReadyH.nil)
     case ho8 => (simp only [List.getElem?_toArray, List.getElem?_cons_succ, List.getElem?_cons_zero]; rfl)
     case ho9 => (simp only [List.getElem?_toArray, List.getElem?_cons_succ, List.getElem?_cons_zero]; rfl)
     ·refine if_want (by kernel_rfl) ?_
      go_simp
      have hof8 := Hof.out w7 _ Hr7.out
      obtain ⟨A7, c7, rfl, _, _, _⟩ := Hr7.out.form
      unfold AnsPost at hof8
      have Hof8 := Lib.hid hof8
      clear hof8
      (go_at_call 31; (with_reducible refine (Hof8.out).mono ?_); rintro e w8 ⟨A8, c8, rfl, hr8, hb8, _⟩; have HBw8 := Lib.hid (bthen HBw7.out hb8); clear hr8 hb8)
      refine hK.out _ _ (HS.out _ (bthen Hb16.out HBw8.out)) (fun hHeld => ?_)
      clear hK K
      (try simp only [Act.put, List.getElem_toArray, List.getElem_cons_succ, List.getElem_cons_zero, List.setIfInBounds_toArray, List.set_cons_zero, List.set_cons_succ])
      refine wpAnyH_ready (rs := [4]) (by kernel_rfl) (by simp) ?_
      refine AllReadyH.cons (o := ?oo5) ?ho5 (fun K hK => ?_) AllReadyH.nil
      case ho5 => (simp only [List.getElem?_toArray, List.getElem?_cons_succ, List.getElem?_cons_zero]; rfl)
      go_simp
      refine hK.out _ _ (HS.out _ (bthen Hb16.out (HBw8.out.alloc HBw8.out.size _))) (fun hHeld => ?_)
      clear hK K
      (try simp only [Act.put, List.getElem_toArray, List.getElem_cons_succ, List.getElem_cons_zero, List.setIfInBounds_toArray, List.set_cons_zero, List.set_cons_succ])
      obtain ⟨w9, hw9⟩ : ∃ x, w8.alloc (Obj.cells z3 71) = x := ⟨_, rfl⟩
      have HBw9 : Hid (Below w6.heap.size w6 w9) := Lib.hid (by rw [← hw9]; exact HBw8.out.alloc HBw8.out.size _)
      have Hrow : Hid (w9.heap[w8.heap.size]? = some (.cells z3 71 (0, 0))) := Lib.hid (by rw [← hw9]; exact World.alloc_heap_new _ _)
      rw [hw9] at hHeld ⊢
      clear hw9
      refine wpAnyH_ready (rs := [5]) (by kernel_rfl) (by simp) ?_
      refine AllReadyH.cons (o := ?oos6) ?hos6 (fun K hK => ?_) AllReadyH.nil
      case hos6 => (simp only [List.getElem?_toArray, List.getElem?_cons_succ, List.getElem?_cons_zero]; rfl)
      obtain ⟨x0, x1, x2⟩ := ans_cells Hrow.out
      have ff := free_of Hrow.out
      have hNge : w6.heap.size ≤ w8.heap.size := HBw8.out.size
      have hne : w8.heap.size ≠ w.heap.size := by have := Hb16.out.size; have := Hlt.out; omega
      go_simp
      obtain ⟨WF, hWF⟩ : ∃ WF, ((w9.setCell ⟨w8.heap.size, 0, none⟩ (.slice A8 a.nums.length c8)).setCell ⟨w8.heap.size, 1, none⟩ (.string a.text)).setCell ⟨w8.heap.size, 2, none⟩ (.int .i64 a.e) = WF := ⟨_, rfl⟩
      obtain ⟨qF, sF, kF, bF⟩ := ans_set Hrow.out hWF
      have HBF : Hid (Below w6.heap.size w6 WF) := Lib.hid (bF _ _ HBw9.out (by omega))
      have HqF := Lib.hid qF
      rw [hWF]
      refine hK.out _ _ (HS.out _ (bthen Hb16.out HBF.out)) (fun hHeld => ?_)
      clear hK K hWF qF sF kF bF x0 x1 x2 ff hne hNge
      (try simp only [Act.put, List.getElem_toArray, List.getElem_cons_succ, List.getElem_cons_zero, List.setIfInBounds_toArray, List.set_cons_zero, List.set_cons_succ])
      refine wpAnyH_done (by kernel_rfl) ?_ _
      go_wp2_with fail
      go_meet
      exact ⟨w8.heap.size, A8, c8, rfl, HqF, HBF⟩
     ·go_simp
      refine hK.out _ _ (HS.out _ (bthen Hb16.out (HBw7.out.alloc HBw7.out.size _))) (fun hHeld => ?_)
      clear hK K
      (try simp only [Act.put, List.getElem_toArray, List.getElem_cons_succ, List.getElem_cons_zero, List.setIfInBounds_toArray, List.set_cons_zero, List.set_cons_succ])
      obtain ⟨w9, hw9⟩ : ∃ x, w7.alloc (Obj.cells z3 71) = x := ⟨_, rfl⟩
      have HBw9 : Hid (Below w6.heap.size w6 w9) := Lib.hid (by rw [← hw9]; exact HBw7.out.alloc HBw7.out.size _)
      have Hrow0 : Hid (w9.heap[w7.heap.size]? = some (.cells z3 71 (0, 0))) := Lib.hid (by rw [← hw9]; exact World.alloc_heap_new _ _)
      rw [hw9] at hHeld ⊢
      have hb79 : Below w7.heap.size w7 w9 := by rw [← hw9]; exact (Below.refl _ _).alloc (Nat.le_refl _) _
      have HN7 : Hid (w7.heap.size = w7.heap.size) := Lib.hid rfl
      clear hw9
      have Hr9 : Hid (RdF w9.heap.size w9 v7 f) := Lib.hid ((Hr7.out.below nodeE_keeps hb79 (Nat.le_refl _)).mono nodeE_keeps hb79.size)
      refine wpAnyH_ready (rs := [3]) (by kernel_rfl) (by simp) ?_
      refine AllReadyH.cons (o := ?oo10) ?ho10 (fun K hK => ?_) AllReadyH.nil
      case ho10 => (simp only [List.getElem?_toArray, List.getElem?_cons_succ, List.getElem?_cons_zero]; rfl)
      refine if_want (by kernel_rfl) ?_
      go_simp
      have hof8 := Hof.out w9 _ Hr9.out
      obtain ⟨A7, c7, rfl, _, _, _⟩ := Hr7.out.form
      unfold AnsPost at hof8
      have Hof8 := Lib.hid hof8
      clear hof8
      (go_at_call 31; (with_reducible refine (Hof8.out).mono ?_); rintro e w8 ⟨A8, c8, rfl, hr8, hb8, _⟩; have HBw8 := Lib.hid (bthen HBw9.out hb8); have Hrow := Lib.hid ((hb8.block _ (lt_heap Hrow0.out)).trans Hrow0.out); clear hr8 hb8)
      refine hK.out _ _ (HS.out _ (bthen Hb16.out HBw8.out)) (fun hHeld => ?_)
      clear hK K
      (try simp only [Act.put, List.getElem_toArray, List.getElem_cons_succ, List.getElem_cons_zero, List.setIfInBounds_toArray, List.set_cons_zero, List.set_cons_succ])
      refine wpAnyH_ready (rs := [5]) (by kernel_rfl) (by simp) ?_
      refine AllReadyH.cons (o := ?oos11) ?hos11 (fun K hK => ?_) AllReadyH.nil
      case hos11 => (simp only [List.getElem?_toArray, List.getElem?_cons_succ, List.getElem?_cons_zero]; rfl)
      obtain ⟨x0, x1, x2⟩ := ans_cells Hrow.out
      have ff := free_of Hrow.out
      have hNge : w6.heap.size ≤ w7.heap.size := HBw7.out.size
      have hne : w7.heap.size ≠ w.heap.size := by have := Hb16.out.size; have := Hlt.out; omega
      go_simp
      obtain ⟨WF, hWF⟩ : ∃ WF, ((w8.setCell ⟨w7.heap.size, 0, none⟩ (.slice A8 a.nums.length c8)).setCell ⟨w7.heap.size, 1, none⟩ (.string a.text)).setCell ⟨w7.heap.size, 2, none⟩ (.int .i64 a.e) = WF := ⟨_, rfl⟩
      obtain ⟨qF, sF, kF, bF⟩ := ans_set Hrow.out hWF
      have HBF : Hid (Below w6.heap.size w6 WF) := Lib.hid (bF _ _ HBw8.out (by omega))
      have HqF := Lib.hid qF
      rw [hWF]
      refine hK.out _ _ (HS.out _ (bthen Hb16.out HBF.out)) (fun hHeld => ?_)
      clear hK K hWF qF sF kF bF x0 x1 x2 ff hne hNge
      (try simp only [Act.put, List.getElem_toArray, List.getElem_cons_succ, List.getElem_cons_zero, List.setIfInBounds_toArray, List.set_cons_zero, List.set_cons_succ])
      refine wpAnyH_done (by kernel_rfl) ?_ _
      go_wp2_with fail
      go_meet
      exact ⟨w7.heap.size, A8, c8, rfl, HqF, HBF⟩
    ·go_simp
     refine hK.out _ _ (HS.out _ (bthen Hb16.out (HBwD.out.alloc HBwD.out.size _))) (fun hHeld => ?_)
     clear hK K
     (try simp only [Act.put, List.getElem_toArray, List.getElem_cons_succ, List.getElem_cons_zero, List.setIfInBounds_toArray, List.set_cons_zero, List.set_cons_succ])
     obtain ⟨w9, hw9⟩ : ∃ x, wD.alloc (Obj.cells z3 71) = x := ⟨_, rfl⟩
     have HBw9 : Hid (Below w6.heap.size w6 w9) := Lib.hid (by rw [← hw9]; exact HBwD.out.alloc HBwD.out.size _)
     have Hrow0 : Hid (w9.heap[wD.heap.size]? = some (.cells z3 71 (0, 0))) := Lib.hid (by rw [← hw9]; exact World.alloc_heap_new _ _)
     rw [hw9] at hHeld ⊢
     clear hw9
     refine wpAnyH_ready (rs := [1]) (by kernel_rfl) (by simp) ?_
     refine AllReadyH.cons (o := ?oo12) ?ho12 (fun K hK => ?_) AllReadyH.nil
     case ho12 => (simp only [List.getElem?_toArray, List.getElem?_cons_succ, List.getElem?_cons_zero]; rfl)
     refine if_want (by kernel_rfl) ?_
     go_simp
     (go_at_call 30; (with_reducible refine (Hg.out _ (bthen Hb16.out HBw9.out)).mono ?_); rintro e w7 ⟨v7, rfl, hr7, hb7⟩; have Hr7 := Lib.hid hr7; have HBw7 := Lib.hid (bthen HBw9.out hb7); have Hrow1 := Lib.hid ((hb7.block _ (lt_heap Hrow0.out)).trans Hrow0.out); clear hr7 hb7)
     refine hK.out _ _ (HS.out _ (bthen Hb16.out HBw7.out)) (fun hHeld => ?_)
     clear hK K
     (try simp only [Act.put, List.getElem_toArray, List.getElem_cons_succ, List.getElem_cons_zero, List.setIfInBounds_toArray, List.set_cons_zero, List.set_cons_succ])
     refine wpAnyH_ready (rs := [3]) (by kernel_rfl) (by simp) ?_
     refine AllReadyH.cons (o := ?oo13) ?ho13 (fun K hK => ?_) AllReadyH.nil
     case ho13 => (simp only [List.getElem?_toArray, List.getElem?_cons_succ, List.getElem?_cons_zero]; rfl)
     refine if_want (by kernel_rfl) ?_
     go_simp
     have hof8 := Hof.out w7 _ Hr7.out
     obtain ⟨A7, c7, rfl, _, _, _⟩ := Hr7.out.form
     unfold AnsPost at hof8
     have Hof8 := Lib.hid hof8
     clear hof8
     (go_at_call 31; (with_reducible refine (Hof8.out).mono ?_); rintro e w8 ⟨A8, c8, rfl, hr8, hb8, _⟩; have HBw8 := Lib.hid (bthen HBw7.out hb8); have Hrow := Lib.hid ((hb8.block _ (lt_heap Hrow1.out)).trans Hrow1.out); clear hr8 hb8)
     refine hK.out _ _ (HS.out _ (bthen Hb16.out HBw8.out)) (fun hHeld => ?_)
     clear hK K
     (try simp only [Act.put, List.getElem_toArray, List.getElem_cons_succ, List.getElem_cons_zero, List.setIfInBounds_toArray, List.set_cons_zero, List.set_cons_succ])
     refine wpAnyH_ready (rs := [5]) (by kernel_rfl) (by simp) ?_
     refine AllReadyH.cons (o := ?oos14) ?hos14 (fun K hK => ?_) AllReadyH.nil
     case hos14 => (simp only [List.getElem?_toArray, List.getElem?_cons_succ, List.getElem?_cons_zero]; rfl)
     obtain ⟨x0, x1, x2⟩ := ans_cells Hrow.out
     have ff := free_of Hrow.out
     have hNge : w6.heap.size ≤ wD.heap.size := HBwD.out.size
     have hne : wD.heap.size ≠ w.heap.size := by have := Hb16.out.size; have := Hlt.out; omega
     go_simp
     obtain ⟨WF, hWF⟩ : ∃ WF, ((w8.setCell ⟨wD.heap.size, 0, none⟩ (.slice A8 a.nums.length c8)).setCell ⟨wD.heap.size, 1, none⟩ (.string a.text)).setCell ⟨wD.heap.size, 2, none⟩ (.int .i64 a.e) = WF := ⟨_, rfl⟩
     obtain ⟨qF, sF, kF, bF⟩ := ans_set Hrow.out hWF
     have HBF : Hid (Below w6.heap.size w6 WF) := Lib.hid (bF _ _ HBw8.out (by omega))
     have HqF := Lib.hid qF
     rw [hWF]
     refine hK.out _ _ (HS.out _ (bthen Hb16.out HBF.out)) (fun hHeld => ?_)
     clear hK K hWF qF sF kF bF x0 x1 x2 ff hne hNge
     (try simp only [Act.put, List.getElem_toArray, List.getElem_cons_succ, List.getElem_cons_zero, List.setIfInBounds_toArray, List.set_cons_zero, List.set_cons_succ])
     refine wpAnyH_done (by kernel_rfl) ?_ _
     go_wp2_with fail
     go_meet
     exact ⟨wD.heap.size, A8, c8, rfl, HqF, HBF⟩
   case rest =>
    obtain ⟨N5, A, c, rfl, HqF, HBF⟩ := hcut
    obtain ⟨w9, rfl⟩ : ∃ x : World, x = wc := ⟨_, rfl⟩
    obtain ⟨x0, x1, x2⟩ := ans_cells HqF.out
    obtain ⟨c0, c1, c2, c3⟩ := HS.out w9 (bthen Hb16.out HBF.out)
    have HBX := Lib.hid (bthen Hb1.out (bthen Hb16.out HBF.out))
    clear HqF HBF Hof Hg Hbn HS Hlt
    by_cases hk : 1 ≤ q.kind ∧ q.kind ≤ 9
    ·obtain ⟨hk1, hk9⟩ := hk
     have hE : ErrA q a := by rw [Ha.out]; exact of_in ⟨hk1, hk9⟩
     obtain ⟨he1, hE⟩ := hE
     have k1 : (a.e == 1) = false := by rw [beq_eq_false_iff_ne]; exact he1
     have k2 : ¬ q.kind < 1 := by omega
     have k3 : ¬ 9 < q.kind := by omega
     rcases hE with h0 | ⟨htx, hE⟩
     ·have k4 : (a.e == 0) = true := by rw [beq_iff_eq]; exact h0
      clear h0 he1
      go_wp2_with fail
      go_ret
      exact ⟨rfl, HBX.out⟩
     ·by_cases h0 : a.e = 0
      ·have k4 : (a.e == 0) = true := by rw [beq_iff_eq]; exact h0
       clear h0 he1 hE htx
       go_wp2_with fail
       go_ret
       exact ⟨rfl, HBX.out⟩
      ·have k4 : (a.e == 0) = false := by rw [beq_eq_false_iff_ne]; exact h0
       have k5 : (a.text.toList == ([] : List UInt8)) = true := by rw [htx, Lib.toList_data]; rfl
       rcases hE with ⟨hn, h90⟩ | ⟨hn, h90, h8⟩
       ·have k6 : (a.e == 90) = false := by rw [beq_eq_false_iff_ne]; exact h90
        have k7 : (a.e != 90) = true := by rw [bne_iff_ne]; exact h90
        have k8 : ((a.nums.length : Int) == 0) = true := by rw [hn]; rfl
        clear h0 he1 htx hn h90
        go_wp2_with fail
        go_ret
        exact ⟨rfl, HBX.out⟩
       ·have k6 : (a.e == 90) = true := by rw [beq_iff_eq]; exact h90
        have k8 : ((a.nums.length : Int) == 0) = false := by rw [hn]; rfl
        have k9 : ((a.nums.length : Int) == 1) = true := by rw [hn]; rfl
        have k10 : (q.kind == 8) = true := by rw [beq_iff_eq]; exact h8
        clear h0 he1 htx hn h90 h8
        go_wp2_with fail
        go_ret
        exact ⟨rfl, HBX.out⟩
    ·have hA : a = { e := 1 } := by rw [Ha.out]; exact of_out hk
     subst hA
     by_cases k2 : q.kind < 1
     ·go_wp2_with fail
      go_ret
      exact ⟨rfl, HBX.out⟩
     ·have k3 : 9 < q.kind := by omega
      go_wp2_with fail
      go_ret
      exact ⟨rfl, HBX.out⟩
end Go.Proofs.YtmbhkkophkccbaaGreat.LSErr
end
section
namespace Go.Proofs.YtmbhkkophkccbaaGreat.snapErrors
open Go.ChangeShapes Go.WideShapes Go.ChangeAt Go.RowKit
open Go.ChangeMaps (open_string shut_string)
set_option linter.unusedVariables false
theorem own : ownKnob Tryz.prog.godebug = none := by kernel_rfl
theorem laidOut : laidOutB Tryz.prog = true := by kernel_rfl
set_option maxRecDepth 100000 in
theorem lifted (os : Os) (started : os.Started) (H : Type) (enc : TypeId × Value → H) :
  ReturnsInHanded {} Tryz.checked os 7 .any (Rows.snapErrorsSpec.pre6 enc Tryz.prog Tryz.f7 Rows.snapErrorsRow.domain false) (Rows.snapErrorsSpec.post enc Tryz.prog Tryz.f7 false true false false) := by
 refine returnsInHanded_of_change_sized (C := Tryz.checked) own started (by kernel_rfl) Tryz.func7
  (ChangeSpec.witness6 (enc := enc) (C := Tryz.checked) false ⟨#[], #[.slice none 0 0, .agg #[.int .i64 0, .int .i64 0, .int .i64 0, .string ByteArray.empty]], []⟩ 8 (by kernel_rfl) (by kernel_rfl) (by kernel_rfl) (by kernel_rfl)) ?_
 intro W base args ds gs before hval0 hW hcnd hsz0 _
 have hsz : (DataW.weightsEach Tryz.prog (Tryz.f7.params.toList ++ Rows.snapErrorsSpec.plain.varTypes Tryz.prog) (ds ++ gs)).all (· ≤ reachBytes) = true := hsz0
 have hval : ∀ (j : Nat) t v, Tryz.f7.params[j]? = some t → args[j]? = some v → Value.okWide Tryz.prog W .any base t v := hval0
 have hW' := hW
 obtain ⟨p, q, hA0, hV, rfl, hfz, hnd⟩ := hW
 have hA : DataW.TrodAll enc Tryz.prog W 0 (fun _ => true) true Tryz.f7.params.toList args.toList ds p := hA0
 rw [Tryz.params7] at hA hval hsz
 obtain ⟨v0, vs0, d0, ds0, p0, q0, hargs, rfl, rfl, h0, r0⟩ := trodAll_cons hA
 obtain ⟨v1, vs1, d1, ds1, p1, q1, rfl, rfl, rfl, h1, r1⟩ := trodAll_cons r0
 obtain ⟨rfl, rfl, rfl⟩ := trodAll_nil r1
 obtain rfl : args = #[v0, v1] := by cases args; simp_all
 obtain ⟨rfl, rfl⟩ := trodVars_none hV
 have k0 := h0
 have lt0 : ∀ x ∈ p0, x.block < W.heap.size := by obtain ⟨m, hm⟩ := k0; exact DataW.trod_lt m _ _ _ hm
 obtain ⟨l0, x0⟩ := Rd.open_list 6 Tryz.underlying22 (by kernel_rfl) (by decide) Shapes.opens_op_Op (hval 0 22 v0 rfl rfl) h0
 have k1 := h1
 have lt1 : ∀ x ∈ p1, x.block < W.heap.size := by obtain ⟨m, hm⟩ := k1; exact DataW.trod_lt m _ _ _ hm
 obtain ⟨l1, rfl, x1⟩ := Shapes.open_query Tryz.underlying69 Shapes.opens_snap_Query (hval 1 69 v1 rfl rfl) h1
 clear hA0 hval0 hsz0 hsz
 refine (LSErr.law_calls W l0 v0 x0 l1 x1).mono fun e W' ⟨he, bel⟩ => ?_
 subst he
 exact ⟨_, rfl, _, _, _, [], _, [], hW', trodAll_mk1 (shut_bool Tryz.underlying4 _), (trodAll_cons_mk (Below.trod laidOut (by kernel_rfl) (of_decide_eq_true (by kernel_rfl)) k0 bel lt0) (trodAll_cons_mk (Below.trod laidOut (by kernel_rfl) (of_decide_eq_true (by kernel_rfl)) k1 bel lt1) trodAll_mk0)), rfl, bel.frame _, fun h => by cases h⟩
set_option maxHeartbeats 20000000 in
theorem closed : joinedFacts Tryz.pinned.checked.prog 7 Tryz.f7 Rows.snapErrorsSpec Rows.snapErrorsRow = true := by
 unfold joinedFacts
 repeat' (with_reducible refine Bool.and_eq_true_iff.2 ⟨?_, ?_⟩)
 all_goals as_aux_lemma => kernel_rfl
theorem over : Rows.snapErrorsRow.holds Tryz.pinned (OpenSpec.ofChange Rows.snapErrorsSpec) :=
 OpenClaim.holds_of_wide 7 Tryz.f7 rfl rfl rfl rfl rfl rfl rfl ⟨rfl, rfl, rfl, rfl, rfl⟩ rfl rfl rfl rfl rfl (by kernel_rfl) Tryz.func7 closed
  (of_decide_eq_true (by kernel_rfl)) (by unfold Func.isWrapper; first | (rw [if_pos (by decide +kernel)]; kernel_rfl) | (rw [if_neg (by decide +kernel)]; exact ⟨rfl, rfl⟩))
  (fun os started H enc _ => lifted os started H enc)
theorem proved : Rows.SnapErrorsSaid := over
end Go.Proofs.YtmbhkkophkccbaaGreat.snapErrors
namespace Go.Proofs.YtmbhkkophkccbaaGreat
theorem snapErrors_holds : Rows.SnapErrorsSaid := snapErrors.proved
#print axioms snapErrors_holds
end Go.Proofs.YtmbhkkophkccbaaGreat
end
