/- The law ApplyOnes answers true at every input, and each argument reads afterwards as it read before; no condition. -/
import Derived.Test.YthdenkkllpkplaaGreatRows
import Derived.WalkKit
import Derived.ProofKit
import Derived.OpenShut
import Derived.ShutString
import Derived.ChangeOld
import Derived.Below
import Derived.SizedLaws
import Derived.Test.YthdenkkllpkplaaGreatC24
import Derived.Test.YthdenkkllpkplaaGreatC16
import Derived.Test.YthdenkkllpkplaaGreatC15
section
/- ApplyOnes: whatever operations come, one by one: what a forest is, and each error, is the document's. -/
namespace Go.Proofs.YthdenkkllpkplaaGreat.LOnes
open Go Go.RowKit Go.Proofs.YthdenkkllpkplaaGreat.Seq Go.Proofs.YthdenkkllpkplaaGreat.WS Go.Proofs.YthdenkkllpkplaaGreat.FS Go.Proofs.YthdenkkllpkplaaGreat.Mem Go.Proofs.YthdenkkllpkplaaGreat.Rd Go.Proofs.YthdenkkllpkplaaGreat.Shapes Go.Proofs.YthdenkkllpkplaaGreat.Word Go.Proofs.YthdenkkllpkplaaGreat.FFam Go.Proofs.YthdenkkllpkplaaGreat.OwnF Go.Proofs.YthdenkkllpkplaaGreat.Grown Go.Proofs.YthdenkkllpkplaaGreat.Ap
set_option linter.unusedVariables false
set_option linter.unusedSimpArgs false
theorem RefNew_calls (w : World) : Calls Tryz.prog 23 #[] w fun e w' => ∃ v, e = .returned v ∧ RdF w'.heap.size w' v newFo ∧ Below w.heap.size w w' := by
  go_enter Tryz.func23, Tryz.ntmps23
  go_wp2_with fail
  go_ret
  refine ⟨_, rfl, ?_, (Below.refl _ _).alloc (Nat.le_refl _) _⟩
  have h0 := World.ownsRow_lit (base := w.heap.size) (e := 86) (size := 6) w #[.int .i64 0, .string ⟨#[]⟩, .string ⟨#[]⟩, .slice none 0 0, .int .i64 (-1), .slice none 0 0] 1 (Nat.le_refl _) (by simp [maxLen]) rfl
  refine RdL.of_own (l := newFo) h0 rfl (fun g hg => (h0.lt g hg).2) (fun i hi => ?_)
  have : i = 0 := by have : i < 1 := hi; omega
  subst this
  exact ⟨.slice none 0 0, .slice none 0 0, rfl, RdL.nil, RdL.nil, show (0 : Nat) ≤ maxLen by decide, show (0 : Nat) ≤ maxLen by decide, show (Lit.int .i64 0).wf = true by decide, show (Lit.int .i64 (-1)).wf = true by decide⟩
set_option maxRecDepth 100000 in
set_option maxHeartbeats 8000000 in
theorem law_calls (w : World) (l : List Opn) (v : Value) (h : RdO w.heap.size w v l) :
    Calls Tryz.prog 4 #[v] w fun e w' => e = .returned (.bool true) ∧ Below w.heap.size w w' := by
  have hbn := bounded_calls w v l h
  have hrd := fun w' (hb : Below w.heap.size w w') => (h.below opE_keeps (w' := w') hb (Nat.le_refl _)).mono opE_keeps hb.size
  obtain ⟨A0, c0, rfl, hl0, hc0, _⟩ := h.form
  simp only [maxLen] at hc0
  have Hrd := Lib.hid hrd
  clear h hrd
  cases hB : bndO l with
  | false =>
    rw [hB] at hbn
    have Hbn := Lib.hid hbn
    clear hbn hB
    go_enter Tryz.func4, Tryz.ntmps4
    go_wp2_with (first | (go_at_call 18; (with_reducible refine (Hbn.out).mono ?_); rintro e w5 ⟨rfl, rfl⟩; clear Hbn) | (go_at_call 19; (with_reducible refine (shown_calls _).mono ?_); rintro e w6 ⟨rfl, hb6⟩; have Hb6 := Lib.hid hb6; clear hb6))
    go_ret
    exact ⟨rfl, Hb6.out⟩
  | true =>
    have hla : l.length ≤ 150 := by unfold bndO at hB; rw [Bool.and_eq_true, decide_eq_true_eq] at hB; exact hB.2
    rw [hB] at hbn
    have Hbn := Lib.hid hbn
    clear hbn hB
    go_enter Tryz.func4, Tryz.ntmps4
    go_upto_region 5 with (first | (go_at_call 18; (with_reducible refine (Hbn.out).mono ?_); rintro e w5 ⟨rfl, rfl⟩; clear Hbn) | (go_at_call 19; (with_reducible refine (shown_calls _).mono ?_); rintro e w6 ⟨rfl, hb6⟩; have Hb6 := Lib.hid hb6; clear hb6) | (go_at_call 20; (with_reducible refine (FNew.New_calls _).mono ?_); rintro e w7 ⟨v7, rfl, hr7, hb7⟩; have Hr7 := Lib.hid hr7; have Hb7 := Lib.hid (bthen Hb6.out hb7); clear hr7 hb7) | (go_at_call 23; (with_reducible refine (RefNew_calls _).mono ?_); rintro e w8 ⟨v8, rfl, hr8, hb8⟩; have Hr8 := Lib.hid hr8; have Hr78 := Lib.hid ((Hr7.out.below nodeE_keeps hb8 (Nat.le_refl _)).mono nodeE_keeps hb8.size); have Hb8 := Lib.hid (bthen Hb7.out hb8); clear hr8 hb8))
    go_wp2_with fail
    go_loopw [3, 4, 5] (fun u v i wr => ∃ k : Nat, k ≤ l.length ∧ i = .int .i64 k ∧ Hid (RdF wr.heap.size wr u (growF (l.take k))) ∧ Hid (RdF wr.heap.size wr v (growF (l.take k))) ∧ Hid (Below w.heap.size w wr)) (fun _ _ i _ => l.length - (intOf i).toNat)
    case atStart => exact ⟨0, Nat.zero_le _, rfl, Hr78, Hr8, Hb8⟩
    case round =>
      obtain ⟨k, hk, rfl, hr1, hr2, hb⟩ := hrel
      by_cases hlt : k < l.length
      · obtain ⟨b, o1, rfl, hbl, g0, g1, g2, g3, g4, g5, m1, m2, m3, m4⟩ := op_at (Hrd.out _ hb.out) hlt
        have hmg := grow_may (l.take k)
        have hs : growF (l.take (k + 1)) = oneF (growF (l.take k)) l[k] := by rw [List.take_succ_eq_append_getElem hlt, grow_snoc]
        have hcell := fun w' (hb' : Below wr.heap.size wr w') => op_at (Hrd.out _ (bthen hb.out hb')) hlt
        generalize growF (l.take k) = G at *
        generalize l[k] = x at *
        have hone := Doings.one_calls wr _ _ x hr1.out hmg m1 m2 m3 m4
        have hone2 := fun w' (hb' : Below wr.heap.size wr w') => R7.One_calls w' G _ x ((hr2.out.below nodeE_keeps hb' (Nat.le_refl _)).mono nodeE_keeps hb'.size) hmg m1 m2
        unfold Doings.OnePost at hone
        unfold R7.RefPost at hone2
        have hmn := one_may hmg x
        have hno : oneE G x ≠ 0 → oneF G x = G := fun e => R7.one_err e
        have hln := may_len hmn
        have han := R7.may_attrs hmn
        have hkn := Work.may_kids hmn
        generalize oneF G x = G' at *
        generalize oneE G x = E at *
        have hits := fun w' v (hr : RdF w'.heap.size w' v G') => Its7.its_calls w' v G' hr (by omega) (fun n hn => by have := han n hn; omega)
        have hsame := fun w' v1 v2 (h1 : RdF w'.heap.size w' v1 G') (h2 : RdF w'.heap.size w' v2 G') => FSameR.RefSame_calls w' v1 v2 G' G' h1 h2
        rw [decide_eq_true rfl] at hsame
        have hmay := fun w' v (hr : RdF w'.heap.size w' v G') => FMay.May_calls w' v G' hr (fun n hn => by have := hkn n hn; omega)
        rw [hmn] at hmay
        have Hone := Lib.hid hone; have Hone2 := Lib.hid hone2; have Hits := Lib.hid hits; have Hsame := Lib.hid hsame; have Hmay := Lib.hid hmay; have Hs := Lib.hid hs; have Hcell := Lib.hid hcell
        obtain ⟨AG, cG, rfl, _, _, _⟩ := hr1.out.form
        obtain ⟨AR, cR, rfl, _, _, _⟩ := hr2.out.form
        clear hone hone2 hits hsame hmay hs m1 m2 m3 m4 hmg hmn hln han hkn hcell
        have hsm := fun w' v (hb' : Below wr.heap.size wr w') (h2 : RdF w'.heap.size w' v G') => FSameF.Same_calls w' _ v G G' ((hr1.out.below nodeE_keeps hb' (Nat.le_refl _)).mono nodeE_keeps hb'.size) h2
        by_cases he : E = 0
        · have q1 : (E != 0) = false := by rw [bne_eq_false_iff_eq]; exact he
          have q2 : (E != E) = false := by rw [bne_eq_false_iff_eq]
          clear hno hsm he
          go_wp2_with (first | (go_at_call 21; ((with_reducible refine (Hone.out).mono ?_); rintro e w10 ⟨v10, rfl, hr10, hb10⟩; have y0 := cell_grow hb10 g0; have y1 := cell_grow hb10 g1; have y2 := cell_grow hb10 g2; have y3 := cell_grow hb10 g3; have y4 := cell_grow hb10 g4; have y5 := cell_grow hb10 g5; have Hr10 := Lib.hid hr10; have Hb10 := Lib.hid hb10; clear hr10 hb10)) | (go_at_call 24; ((with_reducible refine (Hone2.out _ Hb10.out).mono ?_); rintro e w11 ⟨v11, rfl, hr11, hb11⟩; have Hr11 := Lib.hid hr11; have Hp11 := Lib.hid ((Hr10.out.below nodeE_keeps hb11 (Nat.le_refl _)).mono nodeE_keeps hb11.size); have Hb11 := Lib.hid (bthen Hb10.out hb11); clear hr11 hb11)) | (go_at_call 26; ((with_reducible refine (Hits.out _ _ Hp11.out).mono ?_); rintro e w12 ⟨v12, rfl, hr12, hb12⟩; have Hr12 := Lib.hid hr12.rd; have Hp12 := Lib.hid ((Hp11.out.below nodeE_keeps hb12 (Nat.le_refl _)).mono nodeE_keeps hb12.size); have Hq12 := Lib.hid ((Hr11.out.below nodeE_keeps hb12 (Nat.le_refl _)).mono nodeE_keeps hb12.size); have Hb12 := Lib.hid (bthen Hb11.out hb12); clear hr12 hb12)) | (go_at_call 25; ((with_reducible refine (Hsame.out _ _ _ Hr12.out Hq12.out).mono ?_); rintro e w13 ⟨rfl, hb13⟩; have Hp13 := Lib.hid ((Hp12.out.below nodeE_keeps hb13 (Nat.le_refl _)).mono nodeE_keeps hb13.size); have Hq13 := Lib.hid ((Hq12.out.below nodeE_keeps hb13 (Nat.le_refl _)).mono nodeE_keeps hb13.size); have Hb13 := Lib.hid (bthen Hb12.out hb13); clear hb13)) | (go_at_call 27; ((with_reducible refine (Hmay.out _ _ Hp13.out).mono ?_); rintro e w14 ⟨rfl, hb14⟩; have Hp14 := Lib.hid ((Hp13.out.below nodeE_keeps hb14 (Nat.le_refl _)).mono nodeE_keeps hb14.size); have Hq14 := Lib.hid ((Hq13.out.below nodeE_keeps hb14 (Nat.le_refl _)).mono nodeE_keeps hb14.size); have Hb14 := Lib.hid (bthen Hb13.out hb14); clear hb14)))
          go_roundw
          case rel => exact ⟨k + 1, by omega, by go_num, Lib.hid (by rw [Hs.out]; exact Hp14.out), Lib.hid (by rw [Hs.out]; exact Hq14.out), Lib.hid (bthen hb.out Hb14.out)⟩
          case measure => simp [intOf]; omega
        · have q1 : (E != 0) = true := by rw [bne_iff_ne]; exact he
          have q2 : (E != E) = false := by rw [bne_eq_false_iff_eq]
          rw [decide_eq_true (hno he).symm] at hsm
          have Hsm := Lib.hid hsm
          clear hno hsm he
          go_wp2_with (first | (go_at_call 21; ((with_reducible refine (Hone.out).mono ?_); rintro e w10 ⟨v10, rfl, hr10, hb10⟩; have y0 := cell_grow hb10 g0; have y1 := cell_grow hb10 g1; have y2 := cell_grow hb10 g2; have y3 := cell_grow hb10 g3; have y4 := cell_grow hb10 g4; have y5 := cell_grow hb10 g5; have Hr10 := Lib.hid hr10; have Hb10 := Lib.hid hb10; clear hr10 hb10)) | (go_at_call 24; ((with_reducible refine (Hone2.out _ Hb10.out).mono ?_); rintro e w11 ⟨v11, rfl, hr11, hb11⟩; have Hr11 := Lib.hid hr11; have Hp11 := Lib.hid ((Hr10.out.below nodeE_keeps hb11 (Nat.le_refl _)).mono nodeE_keeps hb11.size); have Hb11 := Lib.hid (bthen Hb10.out hb11); clear hr11 hb11)) | (go_at_call 26; ((with_reducible refine (Hits.out _ _ Hp11.out).mono ?_); rintro e w12 ⟨v12, rfl, hr12, hb12⟩; have Hr12 := Lib.hid hr12.rd; have Hp12 := Lib.hid ((Hp11.out.below nodeE_keeps hb12 (Nat.le_refl _)).mono nodeE_keeps hb12.size); have Hq12 := Lib.hid ((Hr11.out.below nodeE_keeps hb12 (Nat.le_refl _)).mono nodeE_keeps hb12.size); have Hb12 := Lib.hid (bthen Hb11.out hb12); clear hr12 hb12)) | (go_at_call 25; ((with_reducible refine (Hsame.out _ _ _ Hr12.out Hq12.out).mono ?_); rintro e w13 ⟨rfl, hb13⟩; have Hp13 := Lib.hid ((Hp12.out.below nodeE_keeps hb13 (Nat.le_refl _)).mono nodeE_keeps hb13.size); have Hq13 := Lib.hid ((Hq12.out.below nodeE_keeps hb13 (Nat.le_refl _)).mono nodeE_keeps hb13.size); have Hb13 := Lib.hid (bthen Hb12.out hb13); clear hb13)) | (go_at_call 27; ((with_reducible refine (Hmay.out _ _ Hp13.out).mono ?_); rintro e w14 ⟨rfl, hb14⟩; have Hp14 := Lib.hid ((Hp13.out.below nodeE_keeps hb14 (Nat.le_refl _)).mono nodeE_keeps hb14.size); have Hq14 := Lib.hid ((Hq13.out.below nodeE_keeps hb14 (Nat.le_refl _)).mono nodeE_keeps hb14.size); have Hb14 := Lib.hid (bthen Hb13.out hb14); clear hb14)) | (go_at_call 28; ((with_reducible refine (Hsm.out _ _ Hb14.out Hp14.out).mono ?_); rintro e w15 ⟨rfl, hb15⟩; have Hp15 := Lib.hid ((Hp14.out.below nodeE_keeps hb15 (Nat.le_refl _)).mono nodeE_keeps hb15.size); have Hq15 := Lib.hid ((Hq14.out.below nodeE_keeps hb15 (Nat.le_refl _)).mono nodeE_keeps hb15.size); have Hb15 := Lib.hid (bthen Hb14.out hb15); clear hb15)))
          go_roundw
          case rel => exact ⟨k + 1, by omega, by go_num, Lib.hid (by rw [Hs.out]; exact Hp15.out), Lib.hid (by rw [Hs.out]; exact Hq15.out), Lib.hid (bthen hb.out Hb15.out)⟩
          case measure => simp [intOf]; omega
      · have Hb := Lib.hid hb.out
        clear hb hr1 hr2
        go_wp2_with fail
        go_ret
        exact ⟨rfl, Hb.out⟩
end Go.Proofs.YthdenkkllpkplaaGreat.LOnes
end
section
/- The law ApplyOnes answers true at every input, and each argument reads afterwards as it read before; no condition. -/
namespace Go.Proofs.YthdenkkllpkplaaGreat.applyOnes
open Go.ChangeShapes Go.WideShapes Go.ChangeAt Go.RowKit
open Go.ChangeMaps (open_string shut_string)
set_option linter.unusedVariables false
theorem own : ownKnob Tryz.prog.godebug = none := by kernel_rfl
theorem laidOut : laidOutB Tryz.prog = true := by kernel_rfl
set_option maxRecDepth 100000 in
theorem lifted (os : Os) (started : os.Started) (H : Type) (enc : TypeId × Value → H) :
    ReturnsInHanded {} Tryz.checked os 4 .any (Rows.applyOnesSpec.pre6 enc Tryz.prog Tryz.f4 Rows.applyOnesRow.domain false) (Rows.applyOnesSpec.post enc Tryz.prog Tryz.f4 false true false false) := by
  refine returnsInHanded_of_change_sized (C := Tryz.checked) own started (by kernel_rfl) Tryz.func4
    (ChangeSpec.witness6 (enc := enc) (C := Tryz.checked) false ⟨#[], #[.slice none 0 0], []⟩ 8 (by kernel_rfl) (by kernel_rfl) (by kernel_rfl) (by kernel_rfl)) ?_
  intro W base args ds gs before hval0 hW hcnd hsz0 _
  have hsz : (DataW.weightsEach Tryz.prog (Tryz.f4.params.toList ++ Rows.applyOnesSpec.plain.varTypes Tryz.prog) (ds ++ gs)).all (· ≤ reachBytes) = true := hsz0
  have hval : ∀ (j : Nat) t v, Tryz.f4.params[j]? = some t → args[j]? = some v → Value.okWide Tryz.prog W .any base t v := hval0
  have hW' := hW
  obtain ⟨p, q, hA0, hV, rfl, hfz, hnd⟩ := hW
  have hA : DataW.TrodAll enc Tryz.prog W 0 (fun _ => true) true Tryz.f4.params.toList args.toList ds p := hA0
  rw [Tryz.params4] at hA hval hsz
  obtain ⟨v0, vs0, d0, ds0, p0, q0, hargs, rfl, rfl, h0, r0⟩ := trodAll_cons hA
  obtain ⟨rfl, rfl, rfl⟩ := trodAll_nil r0
  obtain rfl : args = #[v0] := by cases args; simp_all
  obtain ⟨rfl, rfl⟩ := trodVars_none hV
  have k0 := h0
  have lt0 : ∀ x ∈ p0, x.block < W.heap.size := by obtain ⟨m, hm⟩ := k0; exact DataW.trod_lt m _ _ _ hm
  obtain ⟨l0, x0⟩ := Rd.open_list 6 Tryz.underlying22 (by kernel_rfl) (by decide) Shapes.opens_op_Op (hval 0 22 v0 rfl rfl) h0
  clear hA0 hval0 hsz0 hsz
  refine (LOnes.law_calls W l0 v0 x0).mono fun e W' ⟨he, bel⟩ => ?_
  subst he
  exact ⟨_, rfl, _, _, _, [], _, [], hW', trodAll_mk1 (shut_bool Tryz.underlying4 _), (trodAll_cons_mk (Below.trod laidOut (by kernel_rfl) (of_decide_eq_true (by kernel_rfl)) k0 bel lt0) trodAll_mk0), rfl, bel.frame _, fun h => by cases h⟩
set_option maxHeartbeats 20000000 in
theorem closed : joinedFacts Tryz.pinned.checked.prog 4 Tryz.f4 Rows.applyOnesSpec Rows.applyOnesRow = true := by
  unfold joinedFacts
  repeat' (with_reducible refine Bool.and_eq_true_iff.2 ⟨?_, ?_⟩)
  all_goals as_aux_lemma => kernel_rfl
theorem over : Rows.applyOnesRow.holds Tryz.pinned (OpenSpec.ofChange Rows.applyOnesSpec) :=
  OpenClaim.holds_of_wide 4 Tryz.f4 rfl rfl rfl rfl rfl rfl rfl ⟨rfl, rfl, rfl, rfl, rfl⟩ rfl rfl rfl rfl rfl (by kernel_rfl) Tryz.func4 closed
    (of_decide_eq_true (by kernel_rfl)) (by unfold Func.isWrapper; first | (rw [if_pos (by decide +kernel)]; kernel_rfl) | (rw [if_neg (by decide +kernel)]; exact ⟨rfl, rfl⟩))
    (fun os started H enc _ => lifted os started H enc)
theorem proved : Rows.ApplyOnesSaid := over
end Go.Proofs.YthdenkkllpkplaaGreat.applyOnes
namespace Go.Proofs.YthdenkkllpkplaaGreat
/-- The row, under a short name, for the claim. -/
theorem applyOnes_holds : Rows.ApplyOnesSaid := applyOnes.proved
#print axioms applyOnes_holds
end Go.Proofs.YthdenkkllpkplaaGreat
end
