/- The law WalkTells answers true at every input, and each argument reads afterwards as it read before; no condition. -/
import Derived.Test.YtbbompmpecblgaaRows
import Derived.WalkKit
import Derived.ProofKit
import Derived.OpenShut
import Derived.ShutString
import Derived.ChangeOld
import Derived.Below
import Derived.SizedLaws
import Derived.Test.YtbbompmpecblgaaC21
section
/- WalkTells. -/
namespace Go.Proofs.Ytbbompmpecblgaa.LWTel
open Go Go.RowKit Go.Proofs.Ytbbompmpecblgaa.Seq Go.Proofs.Ytbbompmpecblgaa.WS Go.Proofs.Ytbbompmpecblgaa.FS Go.Proofs.Ytbbompmpecblgaa.Mem Go.Proofs.Ytbbompmpecblgaa.Rd Go.Proofs.Ytbbompmpecblgaa.Shapes Go.Proofs.Ytbbompmpecblgaa.Word Go.Proofs.Ytbbompmpecblgaa.FFam Go.Proofs.Ytbbompmpecblgaa.Grown Go.Proofs.Ytbbompmpecblgaa.Wk
set_option linter.unusedVariables false
set_option linter.unusedSimpArgs false

set_option maxRecDepth 100000 in
set_option maxHeartbeats 16000000 in
theorem law_calls (w : World) (l : List Opn) (v : Value) (h : RdO w.heap.size w v l) (id : Int) (hwi : (Lit.int .i64 id).wf = true) (dd : Int) (hwd : (Lit.int .i64 dd).wf = true) (text : ByteArray) :
    Calls Try.prog 17 #[v, .int .i64 id, .int .i64 dd, .string text] w fun e w' => e = .returned (.bool true) ∧ Below w.heap.size w w' := by
  have hbn := bounded_calls w v l h
  have hrd := fun w' (hb : Below w.heap.size w w') => (h.below opE_keeps (w' := w') hb (Nat.le_refl _)).mono opE_keeps hb.size
  have hgr := fun w' hb => grown_calls w' v l (hrd w' hb)
  unfold GrownPost at hgr
  cases hB : bndO l with
  | false =>
    rw [hB] at hbn
    have Hbn := Lib.hid hbn
    clear hbn h hrd hgr
    go_enter Try.func17, Try.ntmps17
    go_wp2_with (first | (go_at_call 37; (with_reducible refine (Hbn.out).mono ?_); rintro e w5 ⟨rfl, rfl⟩) | (go_at_call 38; (with_reducible refine (shown_calls _).mono ?_); rintro e w6 ⟨rfl, hb6⟩; have Hb6 := Lib.hid hb6; clear hb6))
    go_ret
    exact ⟨rfl, Hb6.out⟩
  | true =>
    rw [hB] at hbn
    by_cases ht : 300 < text.size
    · have Hbn := Lib.hid hbn
      have ht' : (300 : Int) < (text.size : Int) := by omega
      clear hbn h hrd hgr
      go_enter Try.func17, Try.ntmps17
      go_wp2_with (first | (go_at_call 37; (with_reducible refine (Hbn.out).mono ?_); rintro e w5 ⟨rfl, rfl⟩) | (go_at_call 38; (with_reducible refine (shown_calls _).mono ?_); rintro e w6 ⟨rfl, hb6⟩; have Hb6 := Lib.hid hb6; clear hb6))
      go_ret
      exact ⟨rfl, Hb6.out⟩
    · have ht' : ¬ (300 : Int) < (text.size : Int) := by omega
      have hm := grow_may l
      obtain ⟨f, hf⟩ : ∃ f, f = growF l := ⟨_, rfl⟩
      rw [← hf] at hgr hm
      have hl60 := (may_is hm).len
      have ha12 : ∀ n ∈ f, n.attrs.length ≤ 1000 := fun n hn => by
        obtain ⟨i, hi, rfl⟩ := List.mem_iff_getElem.1 hn
        have := Doings.attrs_le hm (nodeI hi)
        rw [at_nat hi] at this
        omega
      have Hbn := Lib.hid hbn; have Hgr := Lib.hid hgr; have Hm := Lib.hid hm; have Ha := Lib.hid ha12
      clear hbn h hrd hgr hm hf ha12
      go_enter Try.func17, Try.ntmps17
      go_upto_region 4 with (first | (go_at_call 37; (with_reducible refine (Hbn.out).mono ?_); rintro e w5 ⟨rfl, rfl⟩) | (go_at_call 38; (with_reducible refine (shown_calls _).mono ?_); rintro e w6 ⟨rfl, hb6⟩; have Hb6 := Lib.hid hb6; clear hb6) | (go_at_call 39; (with_reducible refine (Hgr.out _ Hb6.out).mono ?_); rintro e w7 ⟨v7, rfl, hr7, hb7⟩; have Hr7 := Lib.hid hr7; have Hb7 := Lib.hid (bthen Hb6.out hb7); clear hr7 hb7))
      have hits := Its8.its_calls w7 v7 f Hr7.out (by omega) Ha.out
      have Hits := Lib.hid hits
      clear hits
      go_upto_region 5 with (go_at_call 47; (with_reducible refine (Hits.out).mono ?_); rintro e w8 ⟨u8, rfl, ho8, hb8⟩; have Ho8 := Lib.hid ho8; have Hb8 := Lib.hid hb8; clear ho8 hb8)
      have hF := fun w' (hb : Below w8.heap.size w8 w') => (Hr7.out.below nodeE_keeps (w' := w') (Hb8.out.trans (hb.mono Hb8.out.size)) (Nat.le_refl _)).mono nodeE_keeps (Nat.le_trans Hb8.out.size hb.size)
      have hU := fun w' (hb : Below w8.heap.size w8 w') => (Ho8.out.below hb).rd
      have c1 := fun w' hb => Wk.Parent_calls w' v7 f (hF w' hb) id
      have d1 := fun w' hb => R8.Parent_calls w' u8 f (hU w' hb) Hm.out id
      have c2 := fun w' hb => Wk.Kids_calls w' v7 f (hF w' hb) Hm.out id
      have d2 := fun w' hb => R8.Kids_calls w' u8 f (hU w' hb) id
      have c3 := fun w' hb => Wk.Beside_calls w' v7 f (hF w' hb) Hm.out id dd hwd
      have d3 := fun w' hb => R8.Beside_calls w' u8 f (hU w' hb) Hm.out id dd
      have c4 := fun w' hb => Wk.Order_calls w' v7 f (hF w' hb) Hm.out id hwi
      have d4 := fun w' hb => R8.Order_calls w' u8 f (hU w' hb) Hm.out id
      have c5 := fun w' hb => Wk.Content_calls w' v7 f (hF w' hb) Hm.out id hwi
      have d5 := fun w' hb => R8.Content_calls w' u8 f (hU w' hb) Hm.out id
      have c6 := fun w' hb => Wk.Attr_calls w' v7 f (hF w' hb) id text
      have d6 := fun w' hb => R8.Attr_calls w' u8 f (hU w' hb) id text
      have c7 := fun w' hb => Wk.ById_calls w' v7 f (hF w' hb) Hm.out text
      have d7 := fun w' hb => R8.ById_calls w' u8 f (hU w' hb) Hm.out text
      have hI : ∀ (w' : World) (v1 v2 : Value) (L : List Int), RdL (intE .i64) 1 w'.heap.size w' v1 L → RdL (intE .i64) 1 w'.heap.size w' v2 L → Calls Try.prog 51 #[v1, v2] w' fun e w'' => e = .returned (.bool true) ∧ Below w'.heap.size w' w'' := fun w' v1 v2 L h1 h2 => by
        have := FSame.RefInts_calls w' v1 v2 L L h1 h2
        simpa using this
      unfold KidsPost at c2
      unfold OrderPost at c4 d4
      unfold ContentPost at c5 d5
      unfold AttrPost at c6
      unfold ByIdPost at c7 d7
      clear hF hU
      generalize parentE f id = x1 at *
      generalize kidsE f id = x2 at *
      generalize besideE f id dd = x3 at *
      generalize orderL f id = x4 at *
      generalize contentO f id = x5 at *
      generalize nodeErr f id = x6 at *
      generalize attrVal f id text = x7 at *
      generalize attrErr f id text = x8 at *
      generalize byIdV f (byId f text) = x9 at *
      obtain ⟨a1, b1⟩ := x1
      obtain ⟨a2, b2⟩ := x2
      obtain ⟨a3, b3⟩ := x3
      obtain ⟨a9, b9⟩ := x9
      simp only at c1 d1 c2 d2 c3 d3 c7 d7
      have C1 := Lib.hid c1; have D1 := Lib.hid d1; have C2 := Lib.hid c2; have D2 := Lib.hid d2; have C3 := Lib.hid c3; have D3 := Lib.hid d3; have C4 := Lib.hid c4; have D4 := Lib.hid d4; have C5 := Lib.hid c5; have D5 := Lib.hid d5; have C6 := Lib.hid c6; have D6 := Lib.hid d6; have C7 := Lib.hid c7; have D7 := Lib.hid d7; have HI := Lib.hid hI
      clear c1 d1 c2 d2 c3 d3 c4 d4 c5 d5 c6 d6 c7 d7 hI hwi hwd Hgr Hits Hbn Ha
      go_upto_region 11 with (first | (go_at_call 41; (with_reducible refine (C1.out _ (Below.refl _ _)).mono ?_); rintro e w9 ⟨rfl, rfl⟩) | (go_at_call 48; (with_reducible refine (D1.out _ (Below.refl _ _)).mono ?_); rintro e w9 ⟨rfl, rfl⟩) | (go_at_call 46; (with_reducible refine (C2.out _ (Below.refl _ _)).mono ?_); rintro e w9 ⟨v9, rfl, hr9, hb9⟩; have Hr9 := Lib.hid hr9; have Hb9 := Lib.hid hb9; clear hr9 hb9) | (go_at_call 49; (with_reducible refine (D2.out _ Hb9.out).mono ?_); rintro e w10 ⟨v10, rfl, hr10, rfl⟩; have Hr10 := Lib.hid hr10; clear hr10) | (go_at_call 45; (with_reducible refine (C3.out _ Hb9.out).mono ?_); rintro e w10 ⟨rfl, rfl⟩) | (go_at_call 50; (with_reducible refine (D3.out _ Hb9.out).mono ?_); rintro e w10 ⟨rfl, rfl⟩))
      have hi1 := HI.out _ _ _ _ Hr9.out Hr10.out
      have Hi1 := Lib.hid hi1
      clear hi1
      go_upto_region 13 with (go_at_call 51; (with_reducible refine (Hi1.out).mono ?_); rintro e w11 ⟨rfl, hb11⟩; have Hb11 := Lib.hid (bthen Hb9.out hb11); clear hb11)
      go_upto_region 21 with (first | (go_at_call 42; (with_reducible refine (C4.out _ Hb11.out).mono ?_); rintro e w12 ⟨v12, rfl, hr12, hb12⟩; have Hr12 := Lib.hid hr12; have Hb12 := Lib.hid (bthen Hb11.out hb12); clear hr12 hb12) | (go_at_call 52; (with_reducible refine (D4.out _ Hb12.out).mono ?_); rintro e w13 ⟨v13, rfl, hr13, hb13⟩; have Hr12b := Lib.hid ((Hr12.out.below (intE_keeps _) hb13 (Nat.le_refl _)).mono (intE_keeps _) hb13.size); have Hr13 := Lib.hid hr13; have Hb13 := Lib.hid (bthen Hb12.out hb13); clear hr13 hb13) | (go_at_call 40; (with_reducible refine (C5.out _ Hb13.out).mono ?_); rintro e w14 ⟨rfl, hb14⟩; have Hs14 := Lib.hid hb14; have Hb14 := Lib.hid (bthen Hb13.out hb14); clear hb14) | (go_at_call 53; (with_reducible refine (D5.out _ Hb14.out).mono ?_); rintro e w15 ⟨rfl, hb15⟩; have Hs15 := Lib.hid (bthen Hs14.out hb15); have Hb15 := Lib.hid (bthen Hb14.out hb15); clear hb15) | (go_at_call 44; (with_reducible refine (C6.out _ Hb15.out).mono ?_); rintro e w16 ⟨rfl, hb16⟩; have Hs16 := Lib.hid (bthen Hs15.out hb16); have Hb16 := Lib.hid (bthen Hb15.out hb16); clear hb16) | (go_at_call 54; (with_reducible refine (D6.out _ Hb16.out).mono ?_); rintro e w17 ⟨rfl, rfl⟩) | (go_at_call 43; (with_reducible refine (C7.out _ Hb16.out).mono ?_); rintro e w18 ⟨rfl, hb18⟩; have Hs18 := Lib.hid (bthen Hs16.out hb18); have Hb18 := Lib.hid (bthen Hb16.out hb18); clear hb18) | (go_at_call 55; (with_reducible refine (D7.out _ Hb18.out).mono ?_); rintro e w19 ⟨rfl, hb19⟩; have Hs19 := Lib.hid (bthen Hs18.out hb19); have Hb19 := Lib.hid (bthen Hb18.out hb19); clear hb19))
      have hi2 := HI.out w19 _ _ _ ((Hr12b.out.below (intE_keeps _) Hs19.out (Nat.le_refl _)).mono (intE_keeps _) Hs19.out.size) ((Hr13.out.below (intE_keeps _) Hs19.out (Nat.le_refl _)).mono (intE_keeps _) Hs19.out.size)
      have Hi2 := Lib.hid hi2
      clear hi2
      go_wp2_with (go_at_call 51; (with_reducible refine (Hi2.out).mono ?_); rintro e w20 ⟨rfl, hb20⟩; have Hb20 := Lib.hid (bthen Hb19.out hb20); clear hb20)
      go_ret
      exact ⟨rfl, bthen Hb7.out (Hb8.out.trans (Hb20.out.mono Hb8.out.size))⟩
end Go.Proofs.Ytbbompmpecblgaa.LWTel
end
section
/- The law WalkTells answers true at every input, and each argument reads afterwards as it read before; no condition. -/
namespace Go.Proofs.Ytbbompmpecblgaa.walkTells
open Go.ChangeShapes Go.WideShapes Go.ChangeAt Go.RowKit
open Go.ChangeMaps (open_string shut_string)
set_option linter.unusedVariables false
theorem own : ownKnob Try.prog.godebug = none := by kernel_rfl
theorem laidOut : laidOutB Try.prog = true := by kernel_rfl
set_option maxRecDepth 100000 in
theorem lifted (os : Os) (started : os.Started) (H : Type) (enc : TypeId × Value → H) :
    ReturnsInHanded {} Try.checked os 17 .any (Rows.walkTellsSpec.pre6 enc Try.prog Try.f17 Rows.walkTellsRow.domain false) (Rows.walkTellsSpec.post enc Try.prog Try.f17 false true false false) := by
  refine returnsInHanded_of_change_sized (C := Try.checked) own started (by kernel_rfl) Try.func17
    (ChangeSpec.witness6 (enc := enc) (C := Try.checked) false ⟨#[], #[.slice none 0 0, .int .i64 0, .int .i64 0, .string ByteArray.empty], []⟩ 8 (by kernel_rfl) (by kernel_rfl) (by kernel_rfl) (by kernel_rfl)) ?_
  intro W base args ds gs before hval0 hW hcnd hsz0 _
  have hsz : (DataW.weightsEach Try.prog (Try.f17.params.toList ++ Rows.walkTellsSpec.plain.varTypes Try.prog) (ds ++ gs)).all (· ≤ reachBytes) = true := hsz0
  have hval : ∀ (j : Nat) t v, Try.f17.params[j]? = some t → args[j]? = some v → Value.okWide Try.prog W .any base t v := hval0
  have hW' := hW
  obtain ⟨p, q, hA0, hV, rfl, hfz, hnd⟩ := hW
  have hA : DataW.TrodAll enc Try.prog W 0 (fun _ => true) true Try.f17.params.toList args.toList ds p := hA0
  rw [Try.params17] at hA hval hsz
  obtain ⟨v0, vs0, d0, ds0, p0, q0, hargs, rfl, rfl, h0, r0⟩ := trodAll_cons hA
  obtain ⟨v1, vs1, d1, ds1, p1, q1, rfl, rfl, rfl, h1, r1⟩ := trodAll_cons r0
  obtain ⟨v2, vs2, d2, ds2, p2, q2, rfl, rfl, rfl, h2, r2⟩ := trodAll_cons r1
  obtain ⟨v3, vs3, d3, ds3, p3, q3, rfl, rfl, rfl, h3, r3⟩ := trodAll_cons r2
  obtain ⟨rfl, rfl, rfl⟩ := trodAll_nil r3
  obtain rfl : args = #[v0, v1, v2, v3] := by cases args; simp_all
  obtain ⟨rfl, rfl⟩ := trodVars_none hV
  have k0 := h0
  have lt0 : ∀ x ∈ p0, x.block < W.heap.size := by obtain ⟨m, hm⟩ := k0; exact DataW.trod_lt m _ _ _ hm
  obtain ⟨l0, x0⟩ := Rd.open_list 6 Try.underlying49 (by kernel_rfl) (by decide) Shapes.opens_op_Op (hval 0 49 v0 rfl rfl) h0
  obtain ⟨a1, rfl, rfl, rfl, w1⟩ := open_int Try.underlying3 (hval 1 3 v1 rfl rfl) h1
  obtain ⟨a2, rfl, rfl, rfl, w2⟩ := open_int Try.underlying3 (hval 2 3 v2 rfl rfl) h2
  obtain ⟨a3, rfl, rfl, rfl, y3⟩ := open_string Try.underlying9 (hval 3 9 v3 rfl rfl) h3
  clear hA0 hval0 hsz0 hsz
  refine (LWTel.law_calls W l0 v0 x0 a1 w1 a2 w2 a3).mono fun e W' ⟨he, bel⟩ => ?_
  subst he
  exact ⟨_, rfl, _, _, _, [], _, [], hW', trodAll_mk1 (shut_bool Try.underlying4 _), (trodAll_cons_mk (Below.trod laidOut (by kernel_rfl) (of_decide_eq_true (by kernel_rfl)) k0 bel lt0) (trodAll_cons_mk (shut_int Try.underlying3 w1) (trodAll_cons_mk (shut_int Try.underlying3 w2) (trodAll_cons_mk (shut_string Try.underlying9 y3) trodAll_mk0)))), rfl, bel.frame _, fun h => by cases h⟩
set_option maxHeartbeats 20000000 in
theorem closed : joinedFacts Try.pinned.checked.prog 17 Try.f17 Rows.walkTellsSpec Rows.walkTellsRow = true := by
  unfold joinedFacts
  repeat' (with_reducible refine Bool.and_eq_true_iff.2 ⟨?_, ?_⟩)
  all_goals as_aux_lemma => kernel_rfl
theorem over : Rows.walkTellsRow.holds Try.pinned (OpenSpec.ofChange Rows.walkTellsSpec) :=
  OpenClaim.holds_of_wide 17 Try.f17 rfl rfl rfl rfl rfl rfl rfl ⟨rfl, rfl, rfl, rfl, rfl⟩ rfl rfl rfl rfl rfl (by kernel_rfl) Try.func17 closed
    (of_decide_eq_true (by kernel_rfl)) (by unfold Func.isWrapper; first | (rw [if_pos (by decide +kernel)]; kernel_rfl) | (rw [if_neg (by decide +kernel)]; exact ⟨rfl, rfl⟩))
    (fun os started H enc _ => lifted os started H enc)
theorem proved : Rows.WalkTellsSaid := over
end Go.Proofs.Ytbbompmpecblgaa.walkTells
namespace Go.Proofs.Ytbbompmpecblgaa
/-- The row, under a short name, for the claim. -/
theorem walkTells_holds : Rows.WalkTellsSaid := walkTells.proved
#print axioms walkTells_holds
end Go.Proofs.Ytbbompmpecblgaa
end
