/- The law WalkContent answers true at every input, and each argument reads afterwards as it read before; no condition. -/
import Derived.Test.YtbbompmpecblgaaRows
import Derived.WalkKit
import Derived.ProofKit
import Derived.OpenShut
import Derived.ShutString
import Derived.ChangeOld
import Derived.Below
import Derived.SizedLaws
import Derived.Test.YtbbompmpecblgaaC20
section
/- WalkContent. -/
namespace Go.Proofs.Ytbbompmpecblgaa.LWCon
open Go Go.RowKit Go.Proofs.Ytbbompmpecblgaa.Seq Go.Proofs.Ytbbompmpecblgaa.WS Go.Proofs.Ytbbompmpecblgaa.FS Go.Proofs.Ytbbompmpecblgaa.Mem Go.Proofs.Ytbbompmpecblgaa.Rd Go.Proofs.Ytbbompmpecblgaa.Shapes Go.Proofs.Ytbbompmpecblgaa.Word Go.Proofs.Ytbbompmpecblgaa.FFam Go.Proofs.Ytbbompmpecblgaa.Grown Go.Proofs.Ytbbompmpecblgaa.Wk
set_option linter.unusedVariables false
set_option linter.unusedSimpArgs false

theorem con_len {f : Fo} (hm : mayB f = true) {i : Int} (hi : isNode f i = true) : (contentL f i).length ≤ 3600 := by
  have h1 := flat_len hm (order f i) (fun x hx => ((order_mem (may_is hm) hi x).1 hx).1)
  have h2 := order_len (may_is hm).fam (may_is hm).climb hi
  have h3 := (may_is hm).len
  unfold contentL
  omega
set_option maxRecDepth 100000 in
set_option maxHeartbeats 8000000 in
theorem law_calls (w : World) (l : List Opn) (v : Value) (h : RdO w.heap.size w v l) :
    Calls Try.prog 12 #[v] w fun e w' => e = .returned (.bool true) ∧ Below w.heap.size w w' := by
  have hbn := bounded_calls w v l h
  have hrd := fun w' (hb : Below w.heap.size w w') => (h.below opE_keeps (w' := w') hb (Nat.le_refl _)).mono opE_keeps hb.size
  have hgr := fun w' hb => grown_calls w' v l (hrd w' hb)
  unfold GrownPost at hgr
  cases hB : bndO l with
  | false =>
    rw [hB] at hbn
    have Hbn := Lib.hid hbn
    clear hbn h hrd hgr
    go_enter Try.func12, Try.ntmps12
    go_wp2_with (first | (go_at_call 37; (with_reducible refine (Hbn.out).mono ?_); rintro e w5 ⟨rfl, rfl⟩) | (go_at_call 38; (with_reducible refine (shown_calls _).mono ?_); rintro e w6 ⟨rfl, hb6⟩; have Hb6 := Lib.hid hb6; clear hb6))
    go_ret
    exact ⟨rfl, Hb6.out⟩
  | true =>
    rw [hB] at hbn
    have hm := grow_may l
    obtain ⟨f, hf⟩ : ∃ f, f = growF l := ⟨_, rfl⟩
    rw [← hf] at hgr hm
    have hl60 := (may_is hm).len
    have Hbn := Lib.hid hbn; have Hgr := Lib.hid hgr; have Hm := Lib.hid hm
    clear hbn h hrd hgr hm hf
    go_enter Try.func12, Try.ntmps12
    go_upto_region 4 with (first | (go_at_call 37; (with_reducible refine (Hbn.out).mono ?_); rintro e w5 ⟨rfl, rfl⟩) | (go_at_call 38; (with_reducible refine (shown_calls _).mono ?_); rintro e w6 ⟨rfl, hb6⟩; have Hb6 := Lib.hid hb6; clear hb6) | (go_at_call 39; (with_reducible refine (Hgr.out _ Hb6.out).mono ?_); rintro e w7 ⟨v7, rfl, hr7, hb7⟩; have Hr7 := Lib.hid hr7; have Hb7 := Lib.hid (bthen Hb6.out hb7); clear hr7 hb7))
    obtain ⟨A7, c7, rfl, hl7, hc7, hr7⟩ := Hr7.out.form
    simp only [maxLen] at hc7
    have hr := fun w' (hb : Below w7.heap.size w7 w') => (hr7.below nodeE_keeps (w' := w') hb (Nat.le_refl _)).mono nodeE_keeps hb.size
    have h1 := fun w' hb i hwi => Content_calls w' _ f (hr w' hb) Hm.out i hwi
    unfold ContentPost at h1
    have H1 := Lib.hid h1; have HR := Lib.hid hr
    clear h1 hr hr7 Hgr Hr7 Hbn
    go_wp2_with fail
    go_loopw [4, 5, 6, 7, 8, 9, 10] (fun id _ _ _ _ _ _ wr => ∃ k : Nat, k ≤ f.length ∧ id = .int .i64 k ∧ Below w7.heap.size w7 wr) (fun id _ _ _ _ _ _ _ => f.length - (intOf id).toNat)
    case atStart => exact ⟨0, Nat.zero_le _, rfl, Below.refl _ _⟩
    case round =>
      obtain ⟨k, hk, rfl, hb⟩ := hrel
      by_cases hlt : k < f.length
      · obtain ⟨b, o, Aa, ca, Ak, ck, rfl, hbl, g0, g1, g2, g3, g4, g5, ra, rk, la, lca, lk, lck, m1, m2, m3, m4⟩ := node_at (HR.out wr hb) hlt
        rw [← at_nat hlt] at g0 g2 g5 rk lk
        have hn : isNode f (k : Int) = true := nodeI hlt
        have hkid : ∀ x ∈ (at_ f (k : Int)).kids, isNode f x = true := fun x hx => ((may_is Hm.out).kids k hlt x hx).1
        have hce := content_eq (may_is Hm.out) hn
        have hck : contentO f k = contentL f k := if_pos hn
        have hek : nodeErr f k = 0 := if_pos hn
        have hc1 := H1.out wr hb k (by simp only [Lit.wf, Bool.and_eq_true, decide_eq_true_eq]; have e1 : IntKind.i64.min = -9223372036854775808 := rfl; have e2 : IntKind.i64.max = 9223372036854775807 := rfl; omega)
        rw [hck, hek] at hc1
        have hcg : ∀ w', Below wr.heap.size wr w' → w'.cell? ⟨b, o + k * 6, none⟩ = some (.int .i64 (at_ f (k : Int)).kind) ∧ w'.cell? ⟨b, o + k * 6 + 2, none⟩ = some (.string (at_ f (k : Int)).text) ∧ w'.cell? ⟨b, o + k * 6 + 5, none⟩ = some (.slice Ak (at_ f (k : Int)).kids.length ck) := fun w' hb' => ⟨cell_grow hb' g0, cell_grow hb' g2, cell_grow hb' g5⟩
        have hkl := kids_len Hm.out hn
        have hd0 : decide ((k : Int) < 0) = false := by simp
        have hlt' : (k : Int) < (f.length : Int) := by omega
        have hT : ∃ T : ByteArray, T.data.toList = ownT f k ∧ T = if (at_ f (k : Int)).kind = 2 then (at_ f (k : Int)).text else ⟨#[]⟩ := ⟨_, by unfold ownT; split <;> rfl, rfl⟩
        have Hce := Lib.hid hce; have Hkid := Lib.hid hkid; have Hc1 := Lib.hid hc1; have Hcg := Lib.hid hcg; have Hrk := Lib.hid rk; have Hb := Lib.hid hb
        clear hce hkid hc1 hcg rk hb ra g0 g1 g2 g3 g4 g5 la lca m1 m2 m3 m4 hck hek
        go_upto_if 38 with (go_at_call 40; (with_reducible refine (Hc1.out).mono ?_); rintro e w8 ⟨rfl, hb8⟩; obtain ⟨p0, p2, p5⟩ := Hcg.out w8 hb8; have Hb8 := Lib.hid hb8; clear hb8)
        obtain ⟨T, hT1, hT2⟩ := hT
        have HT1 := Lib.hid hT1; have HT2 := Lib.hid hT2
        clear hT1 hT2
        go_cut [7] (fun t wx => t = .string T ∧ wx = w8)
        case first =>
          by_cases hk2 : (at_ f (k : Int)).kind = 2
          · have hk3 : ((at_ f (k : Int)).kind == 2) = true := by rw [hk2]; rfl
            go_wp2_with fail
            go_meet
            exact ⟨by rw [HT2.out, if_pos hk2], rfl⟩
          · have hk3 : ((at_ f (k : Int)).kind == 2) = false := by simpa using hk2
            go_wp2_with fail
            go_meet
            exact ⟨by rw [HT2.out, if_neg hk2], rfl⟩
        case rest =>
          obtain ⟨rfl, rfl⟩ := hcut
          clear p0 p2
          go_wp2_with fail
          go_loopw [7, 8, 9, 10] (fun t i _ _ wx => ∃ (j : Nat) (U : ByteArray), j ≤ (at_ f (k : Int)).kids.length ∧ i = .int .i64 j ∧ t = .string U ∧ U.data.toList = ownT f k ++ ((at_ f (k : Int)).kids.take j).flatMap (contentL f) ∧ Below wr.heap.size wr wx) (fun _ i _ _ _ => (at_ f (k : Int)).kids.length - (intOf i).toNat)
          case atStart => exact ⟨0, T, Nat.zero_le _, rfl, rfl, by rw [List.take_zero, List.flatMap_nil, List.append_nil]; exact HT1.out, Hb8.out⟩
          case round =>
            obtain ⟨j, U, hj, rfl, rfl, hU, hbx⟩ := hrel
            by_cases hjl : j < (at_ f (k : Int)).kids.length
            · obtain ⟨b2, o2, rfl, hb2l, q0, _⟩ := intE_at (Hrk.out.below (intE_keeps _) hbx (Nat.le_refl _)) hjl
              obtain ⟨_, _, p5'⟩ := Hcg.out wr hbx
              have hnx := Hkid.out _ (List.getElem_mem hjl)
              obtain ⟨x, hx, hxl⟩ := node_nat hnx
              have hc2 := H1.out wr (bthen Hb.out hbx) (at_ f (k : Int)).kids[j] (by rw [hx]; simp only [Lit.wf, Bool.and_eq_true, decide_eq_true_eq]; have e1 : IntKind.i64.min = -9223372036854775808 := rfl; have e2 : IntKind.i64.max = 9223372036854775807 := rfl; omega)
              rw [show contentO f (at_ f (k : Int)).kids[j] = contentL f (at_ f (k : Int)).kids[j] from if_pos hnx, show nodeErr f (at_ f (k : Int)).kids[j] = 0 from if_pos hnx] at hc2
              have hU2 : ((U ++ ⟨(contentL f (at_ f (k : Int)).kids[j]).toArray⟩ : ByteArray)).data.toList = ownT f k ++ ((at_ f (k : Int)).kids.take (j + 1)).flatMap (contentL f) := by
                rw [Pr.app_bytes, hU, List.take_succ_eq_append_getElem hjl, List.flatMap_append]
                simp
              have hs2 := con_len Hm.out hnx
              have hs1 : U.data.toList.length ≤ 3660 := by
                have e := con_len Hm.out hn
                have h2 : U.data.toList.length ≤ (contentL f (k : Int)).length := by
                  rw [hU, Hce.out, List.length_append, List.length_append]
                  conv => rhs; rw [← List.take_append_drop j (at_ f (k : Int)).kids]
                  rw [List.flatMap_append, List.length_append]; omega
                omega
              rw [← Pr.size_len] at hs2
              rw [← Lib.size_eq] at hs1
              have hjl' : (j : Int) < ((at_ f (k : Int)).kids.length : Int) := by omega
              have hj0 : decide ((j : Int) < 0) = false := by simp
              have HU2 := Lib.hid hU2; have Hc2 := Lib.hid hc2; have Hbx := Lib.hid hbx
              clear hU2 hc2 hbx hU hnx hx hxl
              generalize (at_ f (k : Int)).kids[j] = x at *
              go_wp2_with (go_at_call 40; (with_reducible refine (Hc2.out).mono ?_); rintro e w9 ⟨rfl, hb9⟩; have Hb9 := Lib.hid hb9; clear hb9)
              go_roundw
              case rel => exact ⟨j + 1, _, by omega, by go_num, rfl, HU2.out, bthen Hbx.out Hb9.out⟩
              case measure => simp [intOf]; omega
            · obtain rfl : j = (at_ f (k : Int)).kids.length := by omega
              obtain ⟨_, _, p5'⟩ := Hcg.out wr hbx
              rw [List.take_length, ← Hce.out] at hU
              have hUe : U = ⟨(contentL f (k : Int)).toArray⟩ := by
                cases U with | mk d => simp only at hU; rw [← hU]
              subst hUe
              have Hbx := Lib.hid hbx
              clear hbx hU
              go_wp2_with fail
              go_roundw
              case rel => exact ⟨k + 1, by omega, by go_num, bthen Hb.out Hbx.out⟩
              case measure => simp [intOf]; omega
      · obtain rfl : k = f.length := by omega
        have Hb := Lib.hid hb
        have hpos : decide (0 < (f.length : Int)) = true := by simp; omega
        clear hb
        go_wp2_with fail
        go_ret
        exact ⟨by simp; omega, bthen Hb7.out Hb.out⟩
end Go.Proofs.Ytbbompmpecblgaa.LWCon
end
section
/- The law WalkContent answers true at every input, and each argument reads afterwards as it read before; no condition. -/
namespace Go.Proofs.Ytbbompmpecblgaa.walkContent
open Go.ChangeShapes Go.WideShapes Go.ChangeAt Go.RowKit
open Go.ChangeMaps (open_string shut_string)
set_option linter.unusedVariables false
theorem own : ownKnob Try.prog.godebug = none := by kernel_rfl
theorem laidOut : laidOutB Try.prog = true := by kernel_rfl
set_option maxRecDepth 100000 in
theorem lifted (os : Os) (started : os.Started) (H : Type) (enc : TypeId × Value → H) :
    ReturnsInHanded {} Try.checked os 12 .any (Rows.walkContentSpec.pre6 enc Try.prog Try.f12 Rows.walkContentRow.domain false) (Rows.walkContentSpec.post enc Try.prog Try.f12 false true false false) := by
  refine returnsInHanded_of_change_sized (C := Try.checked) own started (by kernel_rfl) Try.func12
    (ChangeSpec.witness6 (enc := enc) (C := Try.checked) false ⟨#[], #[.slice none 0 0], []⟩ 8 (by kernel_rfl) (by kernel_rfl) (by kernel_rfl) (by kernel_rfl)) ?_
  intro W base args ds gs before hval0 hW hcnd hsz0 _
  have hsz : (DataW.weightsEach Try.prog (Try.f12.params.toList ++ Rows.walkContentSpec.plain.varTypes Try.prog) (ds ++ gs)).all (· ≤ reachBytes) = true := hsz0
  have hval : ∀ (j : Nat) t v, Try.f12.params[j]? = some t → args[j]? = some v → Value.okWide Try.prog W .any base t v := hval0
  have hW' := hW
  obtain ⟨p, q, hA0, hV, rfl, hfz, hnd⟩ := hW
  have hA : DataW.TrodAll enc Try.prog W 0 (fun _ => true) true Try.f12.params.toList args.toList ds p := hA0
  rw [Try.params12] at hA hval hsz
  obtain ⟨v0, vs0, d0, ds0, p0, q0, hargs, rfl, rfl, h0, r0⟩ := trodAll_cons hA
  obtain ⟨rfl, rfl, rfl⟩ := trodAll_nil r0
  obtain rfl : args = #[v0] := by cases args; simp_all
  obtain ⟨rfl, rfl⟩ := trodVars_none hV
  have k0 := h0
  have lt0 : ∀ x ∈ p0, x.block < W.heap.size := by obtain ⟨m, hm⟩ := k0; exact DataW.trod_lt m _ _ _ hm
  obtain ⟨l0, x0⟩ := Rd.open_list 6 Try.underlying49 (by kernel_rfl) (by decide) Shapes.opens_op_Op (hval 0 49 v0 rfl rfl) h0
  clear hA0 hval0 hsz0 hsz
  refine (LWCon.law_calls W l0 v0 x0).mono fun e W' ⟨he, bel⟩ => ?_
  subst he
  exact ⟨_, rfl, _, _, _, [], _, [], hW', trodAll_mk1 (shut_bool Try.underlying4 _), (trodAll_cons_mk (Below.trod laidOut (by kernel_rfl) (of_decide_eq_true (by kernel_rfl)) k0 bel lt0) trodAll_mk0), rfl, bel.frame _, fun h => by cases h⟩
set_option maxHeartbeats 20000000 in
theorem closed : joinedFacts Try.pinned.checked.prog 12 Try.f12 Rows.walkContentSpec Rows.walkContentRow = true := by
  unfold joinedFacts
  repeat' (with_reducible refine Bool.and_eq_true_iff.2 ⟨?_, ?_⟩)
  all_goals as_aux_lemma => kernel_rfl
theorem over : Rows.walkContentRow.holds Try.pinned (OpenSpec.ofChange Rows.walkContentSpec) :=
  OpenClaim.holds_of_wide 12 Try.f12 rfl rfl rfl rfl rfl rfl rfl ⟨rfl, rfl, rfl, rfl, rfl⟩ rfl rfl rfl rfl rfl (by kernel_rfl) Try.func12 closed
    (of_decide_eq_true (by kernel_rfl)) (by unfold Func.isWrapper; first | (rw [if_pos (by decide +kernel)]; kernel_rfl) | (rw [if_neg (by decide +kernel)]; exact ⟨rfl, rfl⟩))
    (fun os started H enc _ => lifted os started H enc)
theorem proved : Rows.WalkContentSaid := over
end Go.Proofs.Ytbbompmpecblgaa.walkContent
namespace Go.Proofs.Ytbbompmpecblgaa
/-- The row, under a short name, for the claim. -/
theorem walkContent_holds : Rows.WalkContentSaid := walkContent.proved
#print axioms walkContent_holds
end Go.Proofs.Ytbbompmpecblgaa
end
