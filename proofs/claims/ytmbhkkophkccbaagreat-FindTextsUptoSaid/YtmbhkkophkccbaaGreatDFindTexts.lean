import Derived.Test.YtmbhkkophkccbaaGreatRows
import Derived.WalkKit
import Derived.ProofKit
import Derived.OpenShut
import Derived.ShutString
import Derived.ChangeOld
import Derived.Below
import Derived.SizedLaws
import Derived.Test.YtmbhkkophkccbaaGreatC24
import Derived.Test.YtmbhkkophkccbaaGreatC26
import Derived.Test.YtmbhkkophkccbaaGreatC28
import Derived.Test.YtmbhkkophkccbaaGreatC25
import Derived.Test.YtmbhkkophkccbaaGreatC08
section
namespace Go.Proofs.YtmbhkkophkccbaaGreat.LTexts
open Go Go.RowKit Go.Proofs.YtmbhkkophkccbaaGreat.Seq WS FS Mem Rd Shapes Word FFam Grown Fn Pa Fi
set_option linter.unusedVariables false
set_option linter.unusedSimpArgs false
theorem may_attrs {f : Fo} (hm : mayB f = true) : ∀ n ∈ f, n.attrs.length ≤ 1000 := fun n hn => by
 obtain ⟨i, hi, rfl⟩ := List.mem_iff_getElem.1 hn
 have h := ((may_is hm).node i hi).1
 rw [at_nat hi] at h
 unfold plainB at h
 split at h
 ·simp only [Bool.and_eq_true, decide_eq_true_eq] at h
  rw [h.2]; simp
 ·split at h
  ·simp only [Bool.and_eq_true] at h
   have := ((attrsB_iff _).1 h.2).2.2
   omega
  ·split at h
   ·simp only [Bool.and_eq_true, decide_eq_true_eq] at h
    rw [h.1.2]; simp
   ·cases h
set_option maxRecDepth 100000 in
set_option maxHeartbeats 8000000 in
theorem law_calls (w : World) (l : List Opn) (v : Value) (h : RdO w.heap.size w v l) (s : ByteArray) (hs : s.size ≤ 1048575) :
  Calls Tryz.prog 4 #[v, .string s] w fun e w' => e = .returned (.bool true) ∧ Below w.heap.size w w' := by
 have hpa := parse_calls s (by omega) w
 unfold ParseQ at hpa
 have hO := fun w' (hb : Below w.heap.size w w') => (h.below opE_keeps (w' := w') hb (Nat.le_refl _)).mono opE_keeps hb.size
 have hbn := fun w' (hb : Below w.heap.size w w') => Fi.bounded_calls w' v l (hO w' hb)
 have hgr := fun w' (hb : Below w.heap.size w w') => Fi.grown_calls w' v l (hO w' hb)
 unfold Fi.GrownPost at hgr
 obtain ⟨A0, c0, rfl, hl0, hc0, _⟩ := h.form
 simp only [maxLen] at hc0
 have Hgr := Lib.hid hgr
 clear hgr hO h
 cases hB : bndO l with
 | false =>
  simp only [hB] at hbn
  cases hp : parseP s with
  | error b =>
   rw [hp] at hpa
   have Hpa := Lib.hid hpa
   clear hpa hp
   go_enter Tryz.func4, Tryz.ntmps4
   go_upto_region 2 with (go_at_call 27; (with_reducible refine (Hpa.out).mono ?_); rintro e w8 ⟨hb8, rfl⟩; have Hb8 := Lib.hid hb8; clear hb8)
   have hbn8 := hbn w8 Hb8.out
   have Hbn := Lib.hid hbn8
   clear hbn hbn8
   go_wp2_with (first | (go_at_call 12; (with_reducible refine (Hbn.out).mono ?_); rintro e w5 ⟨rfl, rfl⟩) | (go_at_call 14; (with_reducible refine (Fi.shown_calls _).mono ?_); rintro e w6 ⟨rfl, hb6⟩; have Hb6 := Lib.hid hb6; clear hb6))
   go_ret
   exact ⟨rfl, bthen Hb8.out Hb6.out⟩
  | ok l2 =>
   rw [hp] at hpa
   have Hpa := Lib.hid hpa; have Hp := Lib.hid hp
   clear hpa hp
   go_enter Tryz.func4, Tryz.ntmps4
   go_upto_region 2 with (go_at_call 27; (with_reducible refine (Hpa.out).mono ?_); rintro e w8 ⟨hb8, v8, rfl, hr8⟩; have Hb8 := Lib.hid hb8; have Hr8 := Lib.hid (sel_of hr8); clear hb8 hr8)
   have hbn8 := hbn w8 Hb8.out
   have Hbn := Lib.hid hbn8
   clear hbn hbn8
   obtain ⟨A8, c8, rfl, hl8, hc8, hr8⟩ := Hr8.out.form
   simp only [maxLen] at hc8
   go_wp2_with (first | (go_at_call 12; (with_reducible refine (Hbn.out).mono ?_); rintro e w5 ⟨rfl, rfl⟩) | (go_at_call 14; (with_reducible refine (Fi.shown_calls _).mono ?_); rintro e w6 ⟨rfl, hb6⟩; have Hb6 := Lib.hid hb6; clear hb6))
   go_ret
   exact ⟨rfl, bthen Hb8.out Hb6.out⟩
 | true =>
  simp only [hB] at hbn
  by_cases hn1 : 80 < s.size
  ·have hn2 : 80 < (s.size : Int) := by omega
   cases hp : parseP s with
   | error b =>
    rw [hp] at hpa
    have Hpa := Lib.hid hpa
    clear hpa hp
    go_enter Tryz.func4, Tryz.ntmps4
    go_upto_region 2 with (go_at_call 27; (with_reducible refine (Hpa.out).mono ?_); rintro e w8 ⟨hb8, rfl⟩; have Hb8 := Lib.hid hb8; clear hb8)
    have hbn8 := hbn w8 Hb8.out
    have Hbn := Lib.hid hbn8
    clear hbn hbn8
    go_wp2_with (first | (go_at_call 12; (with_reducible refine (Hbn.out).mono ?_); rintro e w5 ⟨rfl, rfl⟩) | (go_at_call 14; (with_reducible refine (Fi.shown_calls _).mono ?_); rintro e w6 ⟨rfl, hb6⟩; have Hb6 := Lib.hid hb6; clear hb6))
    go_ret
    exact ⟨rfl, bthen Hb8.out Hb6.out⟩
   | ok l2 =>
    rw [hp] at hpa
    have Hpa := Lib.hid hpa; have Hp := Lib.hid hp
    clear hpa hp
    go_enter Tryz.func4, Tryz.ntmps4
    go_upto_region 2 with (go_at_call 27; (with_reducible refine (Hpa.out).mono ?_); rintro e w8 ⟨hb8, v8, rfl, hr8⟩; have Hb8 := Lib.hid hb8; have Hr8 := Lib.hid (sel_of hr8); clear hb8 hr8)
    have hbn8 := hbn w8 Hb8.out
    have Hbn := Lib.hid hbn8
    clear hbn hbn8
    obtain ⟨A8, c8, rfl, hl8, hc8, hr8⟩ := Hr8.out.form
    simp only [maxLen] at hc8
    go_wp2_with (first | (go_at_call 12; (with_reducible refine (Hbn.out).mono ?_); rintro e w5 ⟨rfl, rfl⟩) | (go_at_call 14; (with_reducible refine (Fi.shown_calls _).mono ?_); rintro e w6 ⟨rfl, hb6⟩; have Hb6 := Lib.hid hb6; clear hb6))
    go_ret
    exact ⟨rfl, bthen Hb8.out Hb6.out⟩
  ·have hn2 : ¬ (80 < (s.size : Int)) := by omega
   have HB := Lib.hid hB
   clear hB
   cases hp : parseP s with
   | error b =>
    rw [hp] at hpa
    have Hpa := Lib.hid hpa
    clear hpa hp
    go_enter Tryz.func4, Tryz.ntmps4
    go_upto_region 2 with (go_at_call 27; (with_reducible refine (Hpa.out).mono ?_); rintro e w8 ⟨hb8, rfl⟩; have Hb8 := Lib.hid hb8; clear hb8)
    have hbn8 := hbn w8 Hb8.out
    have Hbn := Lib.hid hbn8
    clear hbn hbn8
    go_wp2_with (first | (go_at_call 12; (with_reducible refine (Hbn.out).mono ?_); rintro e w5 ⟨rfl, rfl⟩) | (go_at_call 14; (with_reducible refine (Fi.shown_calls _).mono ?_); rintro e w6 ⟨rfl, hb6⟩; have Hb6 := Lib.hid hb6; clear hb6))
    go_ret
    exact ⟨rfl, bthen Hb8.out Hb6.out⟩
   | ok l2 =>
    rw [hp] at hpa
    have Hpa := Lib.hid hpa; have Hp := Lib.hid hp
    clear hpa hp
    go_enter Tryz.func4, Tryz.ntmps4
    go_upto_region 2 with (go_at_call 27; (with_reducible refine (Hpa.out).mono ?_); rintro e w8 ⟨hb8, v8, rfl, hr8⟩; have Hb8 := Lib.hid hb8; have Hr8 := Lib.hid (sel_of hr8); clear hb8 hr8)
    have hbn8 := hbn w8 Hb8.out
    have Hbn := Lib.hid hbn8
    clear hbn hbn8
    obtain ⟨A8, c8, rfl, hl8, hc8, hr8⟩ := Hr8.out.form
    simp only [maxLen] at hc8
    have hsms : SmS l2 := (parse_sm Hp.out).2
    have hzz := parse_z Hp.out (by omega)
    have hm := grow_may l
    have hsm := Fi.grow_sm HB.out
    obtain ⟨f, hf⟩ : ∃ f, f = growF l := ⟨_, rfl⟩
    rw [← hf] at hm hsm
    have hgr' := fun w' (hb : Below w8.heap.size w8 w') => Hgr.out w' (bthen Hb8.out hb)
    simp only [← hf] at hgr'
    have hrl := fun w' (hb : Below w8.heap.size w8 w') => (Hr8.out.below rowE_keeps (w' := w') hb (Nat.le_refl _)).mono rowE_keeps hb.size
    have Hg := Lib.hid hgr'; have Hm := Lib.hid hm; have Hsm := Lib.hid hsm; have Hrl := Lib.hid hrl; have Hsms := Lib.hid hsms; have Hz := Lib.hid hzz
    clear hgr' hm hsm hrl hsms hzz hf hr8
    go_upto_region 5 with (first | (go_at_call 12; (with_reducible refine (Hbn.out).mono ?_); rintro e w5 ⟨rfl, rfl⟩) | (go_at_call 14; (with_reducible refine (Fi.shown_calls _).mono ?_); rintro e w6 ⟨rfl, hb6⟩; have Hb6 := Lib.hid hb6; clear hb6) | (go_at_call 15; (with_reducible refine (Hg.out _ Hb6.out).mono ?_); rintro e w7 ⟨v7, rfl, hr7, hb7⟩; have Hr7 := Lib.hid hr7; have Hb7 := Lib.hid (bthen Hb6.out hb7); clear hr7 hb7))
    have hrd := fun w' (hb : Below w7.heap.size w7 w') => (Hr7.out.below nodeE_keeps (w' := w') hb (Nat.le_refl _)).mono nodeE_keeps hb.size
    obtain ⟨A7, c7, rfl, hl7, hc7, _⟩ := Hr7.out.form
    have hall := All_calls w7 _ f (hrd w7 (Below.refl _ _)) Hm.out Hsm.out 0 (by decide) _ _ (Hrl.out w7 Hb7.out) Hsms.out
    have hits := fun w' (hb : Below w7.heap.size w7 w') => ItsA.its_calls w' _ f (hrd w' hb) (by have := (may_len Hm.out).2; omega) (may_attrs Hm.out)
    have hrows := fun w' (hb : Below w7.heap.size w7 w') => rows_calls w' _ l2 (Hrl.out w' (bthen Hb7.out hb)) Hz.out
    have hral := fun w' u vs (hu : RdF w'.heap.size w' u f) (hv : RdSel w'.heap.size w' vs l2) => R10.All_calls w' u f hu Hm.out Hsm.out 0 (by decide) vs l2 hv Hsms.out
    have hint := fun w' u u2 (hu : RdL (intE .i64) 1 w'.heap.size w' u (allS f 0 l2)) (hu2 : RdL (intE .i64) 1 w'.heap.size w' u2 (allS f 0 l2)) => FSame.RefInts_calls w' u u2 _ _ hu hu2
    generalize allS f 0 l2 = L at *
    simp only [decide_true] at hint
    have Hall := Lib.hid hall; have Hits := Lib.hid hits; have Hrows := Lib.hid hrows; have Hral := Lib.hid hral; have Hint := Lib.hid hint
    clear hall hits hrows hral hint hrd
    go_wp2_with (first
     | (go_at_call 17; (with_reducible refine (Hall.out).mono ?_); rintro e w20 ⟨u20, rfl, hu20, hb20⟩; obtain ⟨A20, c20, rfl, _, _, _⟩ := id hu20; have Hu20 := Lib.hid hu20; have Hb20 := Lib.hid hb20; clear hu20 hb20)
     | (go_at_call 16; (with_reducible refine (Hits.out _ Hb20.out).mono ?_); rintro e w21 ⟨u21, rfl, hu21, hb21⟩; have Hu21 := Lib.hid hu21.rd; have Hb21 := Lib.hid hb21; obtain ⟨A21, c21, rfl, _, _, _⟩ := hu21.rd.form; clear hu21 hb21)
     | (go_at_call 20; (with_reducible refine (Hrows.out _ (bthen Hb20.out Hb21.out)).mono ?_); rintro e w22 ⟨u22, rfl, hu22, hb22⟩; obtain ⟨A22, c22, rfl, _, _, _⟩ := hu22.form; have Hu22 := Lib.hid hu22; have Hb22 := Lib.hid hb22; clear hu22 hb22)
     | (go_at_call 22; (with_reducible refine (Hral.out _ _ _ ((Hu21.out.below nodeE_keeps Hb22.out (Nat.le_refl _)).mono nodeE_keeps Hb22.out.size) Hu22.out).mono ?_); rintro e w23 ⟨u23, rfl, hu23, hb23⟩; obtain ⟨A23, c23, rfl, _, _, _⟩ := id hu23; have Hu23 := Lib.hid hu23; have Hb23 := Lib.hid hb23; clear hu23 hb23)
     | (go_at_call 21; (with_reducible refine (Hint.out _ _ _ ((Hu20.out.below (intE_keeps _) (bthen Hb21.out (bthen Hb22.out Hb23.out)) (Nat.le_refl _)).mono (intE_keeps _) (bthen Hb21.out (bthen Hb22.out Hb23.out)).size) Hu23.out).mono ?_); rintro e w24 ⟨rfl, hb24⟩; have Hb24 := Lib.hid hb24; clear hb24))
    go_ret
    exact ⟨rfl, bthen Hb8.out (bthen Hb7.out (bthen Hb20.out (bthen Hb21.out (bthen Hb22.out (bthen Hb23.out Hb24.out)))))⟩
end Go.Proofs.YtmbhkkophkccbaaGreat.LTexts
end
section
namespace Go.Proofs.YtmbhkkophkccbaaGreat.findTexts
open Go.ChangeShapes Go.WideShapes Go.ChangeAt Go.RowKit
open Go.ChangeMaps (open_string shut_string)
set_option linter.unusedVariables false
set_option linter.unusedSimpArgs false
theorem own : ownKnob Tryz.prog.godebug = none := by kernel_rfl
theorem laidOut : laidOutB Tryz.prog = true := by kernel_rfl
theorem bulk_len {H : Type} (l : List (DataW H)) : l.length ≤ Rows.uptoBulkAll l := by
 induction l with
 | nil => simp [Rows.uptoBulkAll]
 | cons x r ih =>
  have : 1 ≤ Rows.uptoBulk x := by cases x with
   | lit l => cases l <;> simp [Rows.uptoBulk]
   | _ => simp [Rows.uptoBulk]
  simp only [Rows.uptoBulkAll, List.length_cons]; omega
set_option maxRecDepth 100000 in
theorem contract (H : Type) (enc : TypeId × Value → H) (W : World) (base : Nat) (args : Array Value) (ds gs : List (DataW H)) (before : List MemPlace)
  (hval0 : ∀ (j : Nat) t v, Tryz.f4.params[j]? = some t → args[j]? = some v → Value.okWide Tryz.prog W .any base t v)
  (hW : DataW.Whole enc Tryz.prog Tryz.f4.params.toList Rows.findTextsSpec.vars false W args.toList ds gs before) (hk0 : Rows.uptoSmall H (ds ++ gs) = true) :
  Calls Tryz.prog 4 args W fun e W' => ∃ v, e = .returned v ∧ Rows.findTextsSpec.post enc Tryz.prog Tryz.f4 false true false false W args v W' := by
 have hk := hk0
 have hval : ∀ (j : Nat) t v, Tryz.f4.params[j]? = some t → args[j]? = some v → Value.okWide Tryz.prog W .any base t v := hval0
 have hW' := hW
 obtain ⟨p, q, hA0, hV, rfl, hfz, hnd⟩ := hW
 have hA : DataW.TrodAll enc Tryz.prog W 0 (fun _ => true) true Tryz.f4.params.toList args.toList ds p := hA0
 rw [Tryz.params4] at hA hval
 obtain ⟨v0, vs0, d0, ds0, p0, q0, hargs, rfl, rfl, h0, r0⟩ := trodAll_cons hA
 obtain ⟨v1, vs1, d1, ds1, p1, q1, rfl, rfl, rfl, h1, r1⟩ := trodAll_cons r0
 obtain ⟨rfl, rfl, rfl⟩ := trodAll_nil r1
 obtain rfl : args = #[v0, v1] := by cases args; simp_all
 obtain ⟨rfl, rfl⟩ := trodVars_none hV
 have k0 := h0
 have lt0 : ∀ x ∈ p0, x.block < W.heap.size := by obtain ⟨m, hm⟩ := k0; exact DataW.trod_lt m _ _ _ hm
 obtain ⟨l0, x0⟩ := Rd.open_list 6 Tryz.underlying22 (by kernel_rfl) (by decide) Shapes.opens_op_Op (hval 0 22 v0 rfl rfl) h0
 obtain ⟨a1, rfl, rfl, rfl, y1⟩ := open_string Tryz.underlying9 (hval 1 9 v1 rfl rfl) h1
 clear hA0 hval0
 refine (LTexts.law_calls W l0 v0 x0 a1 (by have hb := of_decide_eq_true hk; simp only [List.cons_append, List.nil_append, List.append_nil, Rows.uptoBulkAll, Rows.uptoBulk] at hb; have e : a1.data.toList.length = a1.size := (by rw [Array.length_toList]; rfl); omega)).mono fun e W' ⟨he, bel⟩ => ?_
 subst he
 exact ⟨_, rfl, _, _, _, [], _, [], hW', trodAll_mk1 (shut_bool Tryz.underlying4 _), (trodAll_cons_mk (Below.trod laidOut (by kernel_rfl) (of_decide_eq_true (by kernel_rfl)) k0 bel lt0) (trodAll_cons_mk (shut_string Tryz.underlying9 y1) trodAll_mk0)), rfl, bel.frame _, fun h => by cases h⟩
set_option maxRecDepth 100000 in
theorem lifted (os : Os) (started : os.Started) (H : Type) (enc : TypeId × Value → H) (F : Stop.Interp) :
  ReturnsInHanded {} Tryz.checked os 4 .any ((Rows.OpenSpec.upto Rows.findTextsSpec).pre6 enc Tryz.prog Tryz.f4 Rows.findTextsUptoRow.domain false) (((Rows.OpenSpec.upto Rows.findTextsSpec).at F).post enc Tryz.prog Tryz.f4 false true false false) := by
 refine returnsInHanded_of_cond (C := Tryz.checked) (s := Rows.OpenSpec.upto Rows.findTextsSpec) (k := Rows.uptoSmall) rfl own started (by kernel_rfl) Tryz.func4
  (OpenSpec.witness (enc := enc) (C := Tryz.checked) (s := Rows.OpenSpec.upto Rows.findTextsSpec) (k := Rows.uptoSmall) rfl false ⟨#[], #[.slice none 0 0, .string ByteArray.empty], []⟩ 8 (by kernel_rfl) (by kernel_rfl) (by kernel_rfl)
   (x := ([.nil, .lit (.string [])], [], [])) (by kernel_rfl) rfl (by kernel_rfl)) ?_
 intro W base args ds gs before hval hW _ hk _
 exact contract H enc W base args ds gs before hval hW hk
set_option maxHeartbeats 20000000 in
theorem closed : joinedFacts Tryz.pinned.checked.prog 4 Tryz.f4 (Rows.OpenSpec.upto Rows.findTextsSpec).bare Rows.findTextsUptoRow = true := by
 unfold joinedFacts
 repeat' (with_reducible refine Bool.and_eq_true_iff.2 ⟨?_, ?_⟩)
 all_goals as_aux_lemma => kernel_rfl
theorem over : Rows.findTextsUptoRow.holds Tryz.pinned (Rows.OpenSpec.upto Rows.findTextsSpec) :=
 OpenClaim.holds_of_cond 4 Tryz.f4 rfl rfl rfl rfl rfl rfl rfl ⟨rfl, rfl, rfl, rfl, rfl⟩ rfl rfl rfl rfl rfl (by kernel_rfl) Tryz.func4 closed
  (of_decide_eq_true (by kernel_rfl)) (by unfold Func.isWrapper; first | (rw [if_pos (by decide +kernel)]; kernel_rfl) | (rw [if_neg (by decide +kernel)]; exact ⟨rfl, rfl⟩))
  (fun os started H enc _ F => lifted os started H enc F)
theorem proved : Rows.FindTextsUptoSaid := over
end Go.Proofs.YtmbhkkophkccbaaGreat.findTexts
namespace Go.Proofs.YtmbhkkophkccbaaGreat
theorem findTextsUpto_holds : Rows.FindTextsUptoSaid := findTexts.proved
#print axioms findTextsUpto_holds
end Go.Proofs.YtmbhkkophkccbaaGreat
end
