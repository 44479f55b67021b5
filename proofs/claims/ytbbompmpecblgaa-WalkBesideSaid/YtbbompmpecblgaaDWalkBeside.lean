/- The law WalkBeside answers true at every input, and each argument reads afterwards as it read before; no condition. -/
import Derived.Test.YtbbompmpecblgaaRows
import Derived.WalkKit
import Derived.ProofKit
import Derived.OpenShut
import Derived.ShutString
import Derived.ChangeOld
import Derived.Below
import Derived.SizedLaws
import Derived.Test.YtbbompmpecblgaaC20
section
/- WalkBeside. -/
namespace Go.Proofs.Ytbbompmpecblgaa.LWBes
open Go Go.RowKit Go.Proofs.Ytbbompmpecblgaa.Seq Go.Proofs.Ytbbompmpecblgaa.WS Go.Proofs.Ytbbompmpecblgaa.FS Go.Proofs.Ytbbompmpecblgaa.Mem Go.Proofs.Ytbbompmpecblgaa.Rd Go.Proofs.Ytbbompmpecblgaa.Shapes Go.Proofs.Ytbbompmpecblgaa.Word Go.Proofs.Ytbbompmpecblgaa.FFam Go.Proofs.Ytbbompmpecblgaa.Grown Go.Proofs.Ytbbompmpecblgaa.Wk
set_option linter.unusedVariables false
set_option linter.unusedSimpArgs false

set_option maxRecDepth 100000 in
set_option maxHeartbeats 8000000 in
theorem law_calls (w : World) (l : List Opn) (v : Value) (h : RdO w.heap.size w v l) (a : Int) (ha : (Lit.int .u8 a).wf = true) :
    Calls Try.prog 16 #[v, .int .u8 a] w fun e w' => e = .returned (.bool true) ∧ Below w.heap.size w w' := by
  simp only [Lit.wf, Bool.and_eq_true, decide_eq_true_eq] at ha
  have ha0 : (0 : Int) ≤ a := ha.1
  have ha1 : a ≤ 255 := ha.2
  clear ha
  obtain ⟨an, rfl⟩ : ∃ an : Nat, a = an := ⟨a.toNat, by omega⟩
  have hbn := bounded_calls w v l h
  have hrd := fun w' (hb : Below w.heap.size w w') => (h.below opE_keeps (w' := w') hb (Nat.le_refl _)).mono opE_keeps hb.size
  have hgr := fun w' hb => grown_calls w' v l (hrd w' hb)
  unfold GrownPost at hgr
  cases hB : bndO l with
  | false =>
    rw [hB] at hbn
    have Hbn := Lib.hid hbn
    clear hbn h hrd hgr
    go_enter Try.func16, Try.ntmps16
    go_wp2_with (first | (go_at_call 37; (with_reducible refine (Hbn.out).mono ?_); rintro e w5 ⟨rfl, rfl⟩) | (go_at_call 38; (with_reducible refine (shown_calls _).mono ?_); rintro e w6 ⟨rfl, hb6⟩; have Hb6 := Lib.hid hb6; clear hb6))
    go_ret
    exact ⟨rfl, Hb6.out⟩
  | true =>
    rw [hB] at hbn
    have hm := grow_may l
    obtain ⟨f, hf⟩ : ∃ f, f = growF l := ⟨_, rfl⟩
    rw [← hf] at hgr hm
    have hl60 := (may_is hm).len
    have Hbn := Lib.hid hbn; have Hgr := Lib.hid hgr; have Hm := Lib.hid hm
    clear hbn h hrd hgr hm hf
    go_enter Try.func16, Try.ntmps16
    go_upto_region 4 with (first | (go_at_call 37; (with_reducible refine (Hbn.out).mono ?_); rintro e w5 ⟨rfl, rfl⟩) | (go_at_call 38; (with_reducible refine (shown_calls _).mono ?_); rintro e w6 ⟨rfl, hb6⟩; have Hb6 := Lib.hid hb6; clear hb6) | (go_at_call 39; (with_reducible refine (Hgr.out _ Hb6.out).mono ?_); rintro e w7 ⟨v7, rfl, hr7, hb7⟩; have Hr7 := Lib.hid hr7; have Hb7 := Lib.hid (bthen Hb6.out hb7); clear hr7 hb7))
    obtain ⟨A7, c7, rfl, hl7, hc7, hr7⟩ := Hr7.out.form
    simp only [maxLen] at hc7
    have hr := fun w' (hb : Below w7.heap.size w7 w') => (hr7.below nodeE_keeps (w' := w') hb (Nat.le_refl _)).mono nodeE_keeps hb.size
    obtain ⟨n, hnd⟩ : ∃ n, n = an % 5 := ⟨_, rfl⟩
    have hn4 : n ≤ 4 := by omega
    have hm1 : (an : Int) % 5 = (n : Int) := by omega
    have hm2 : Int.tmod (an : Int) 5 = (n : Int) := by rw [Int.tmod_eq_emod_of_nonneg (by omega)]; exact hm1
    have h1 := fun w' hb i => Parent_calls w' _ f (hr w' hb) i
    have h2 := fun w' hb i d hd => Beside_calls w' _ f (hr w' hb) Hm.out i d hd
    have h3 := fun w' hb i => Kids_calls w' _ f (hr w' hb) Hm.out i
    unfold KidsPost at h3
    have H1 := Lib.hid h1; have H2 := Lib.hid h2; have H3 := Lib.hid h3; have HR := Lib.hid hr
    clear h1 h2 h3 hr hr7 Hgr Hr7 Hbn hnd
    go_upto_region 5 with fail
    clear hm1 hm2
    have hwf : ∀ d : Int, -4 ≤ d → d ≤ 4 → (Lit.int .i64 d).wf = true := fun d h1 h2 => by
      simp only [Lit.wf, Bool.and_eq_true, decide_eq_true_eq]; have e1 : IntKind.i64.min = -9223372036854775808 := rfl; have e2 : IntKind.i64.max = 9223372036854775807 := rfl; omega
    have Hwf := Lib.hid hwf
    clear hwf
    go_wp2_with fail
    go_loopw [7, 8, 9, 10, 11, 12, 13, 14, 15] (fun id _ _ _ _ _ _ _ _ wr => ∃ k : Nat, k ≤ f.length ∧ id = .int .i64 k ∧ wr = w7) (fun id _ _ _ _ _ _ _ _ _ => f.length - (intOf id).toNat)
    case atStart => exact ⟨0, Nat.zero_le _, rfl, rfl⟩
    case round =>
      obtain ⟨k, hk, rfl, rfl⟩ := hrel
      by_cases hlt : k < f.length
      · have hlt' : (k : Int) < (f.length : Int) := by omega
        have hb1 := H2.out wr (Below.refl _ _) k n (Hwf.out _ (by omega) (by omega))
        rcases bes_back (may_is Hm.out) hlt n with he | ⟨x, p, hxl, he1, he2, he3, he4, he5⟩
        · rw [he] at hb1
          simp only at hb1
          have Hb1 := Lib.hid hb1
          clear hb1 he
          go_wp2_with (go_at_call 45; (with_reducible refine (Hb1.out).mono ?_); rintro e w8 ⟨rfl, rfl⟩)
          go_roundw
          case rel => exact ⟨k + 1, by omega, by go_num, trivial⟩
          case measure => simp [intOf]; omega
        · have hb2 := H2.out wr (Below.refl _ _) x (-(n : Int)) (Hwf.out _ (by omega) (by omega))
          have hp1 := H1.out wr (Below.refl _ _) k
          have hp2 := H1.out wr (Below.refl _ _) x
          rw [he1] at hb1
          rw [he2] at hb2
          rw [he3] at hp1
          rw [he4] at hp2
          simp only at hb1 hb2 hp1 hp2
          have hen : ((n : Int) == 0) = ((x : Int) == (k : Int)) := by
            rw [Bool.eq_iff_iff, beq_iff_eq, beq_iff_eq]; omega
          have Hb1 := Lib.hid hb1; have Hb2 := Lib.hid hb2; have Hp1 := Lib.hid hp1; have Hp2 := Lib.hid hp2
          clear hb1 hb2 hp1 hp2 he1 he2 he3 he4 he5
          go_wp2_with (first
            | (go_at_call 45; (first | (with_reducible refine (Hb1.out).mono ?_) | (with_reducible refine (Hb2.out).mono ?_)); rintro e w8 ⟨rfl, rfl⟩)
            | (go_at_call 41; (first | (with_reducible refine (Hp1.out).mono ?_) | (with_reducible refine (Hp2.out).mono ?_)); rintro e w8 ⟨rfl, rfl⟩))
          go_roundw
          case rel => exact ⟨k + 1, by omega, by go_num, trivial⟩
          case measure => simp [intOf]; omega
      · obtain rfl : k = f.length := by omega
        go_wp2_with fail
        go_loopw [16, 17, 18, 19, 20, 21, 22] (fun id _ _ _ _ _ _ wx => ∃ k : Nat, k ≤ f.length ∧ id = .int .i64 k ∧ Below wr.heap.size wr wx) (fun id _ _ _ _ _ _ _ => f.length - (intOf id).toNat)
        case atStart => exact ⟨0, Nat.zero_le _, rfl, Below.refl _ _⟩
        case round =>
          obtain ⟨k, hk, rfl, hb⟩ := hrel
          by_cases hlt : k < f.length
          · have hlt' : (k : Int) < (f.length : Int) := by omega
            have hk1 := H3.out wr hb k
            have hke : kidsE f k = ((at_ f (k : Int)).kids, 0) := by unfold kidsE; rw [if_neg (by rw [nodeI hlt]; decide)]
            rw [hke] at hk1
            simp only at hk1
            have hkl := kids_len Hm.out (nodeI hlt)
            obtain ⟨K, hK⟩ : ∃ K, K = (at_ f (k : Int)).kids := ⟨_, rfl⟩
            rw [← hK] at hk1 hkl
            have hfst : ∀ h0 : 0 < K.length, besideE f K[0] (-1) = (0, 3) := by subst hK; exact fun h0 => bes_err (may_is Hm.out) (nodeI hlt) h0 _ (by omega)
            have hlst : ∀ h0 : 0 < K.length, besideE f (K[K.length - 1]'(by omega)) 1 = (0, 3) := by subst hK; exact fun h0 => bes_err (may_is Hm.out) (nodeI hlt) (by omega) _ (by omega)
            clear hK
            have Hk1 := Lib.hid hk1; have Hb := Lib.hid hb; have Hfst := Lib.hid hfst; have Hlst := Lib.hid hlst
            clear hk1 hb hke hfst hlst
            go_upto_region 19 with (go_at_call 46; (with_reducible refine (Hk1.out).mono ?_); rintro e w8 ⟨v8, rfl, hr8, hb8⟩; have Hr8 := Lib.hid hr8; have Hb8 := Lib.hid hb8; clear hr8 hb8)
            obtain ⟨A8, c8, rfl, hl8, hc8, hr8⟩ := Hr8.out.form
            simp only [maxLen] at hc8
            by_cases h0 : 0 < K.length
            · obtain ⟨b, o, rfl, hbl, g0, _⟩ := intE_at hr8 h0
              obtain ⟨b', o', he, _, g1, _⟩ := intE_at hr8 (show K.length - 1 < K.length by omega)
              injection he with he
              injection he with he he' _
              subst he he'
              have hB := bthen Hb.out Hb8.out
              have hb1 := H2.out w8 hB K[0] (-1) (Hwf.out _ (by omega) (by omega))
              have hb2 := H2.out w8 hB (K[K.length - 1]'(by omega)) 1 (Hwf.out _ (by omega) (by omega))
              rw [Hfst.out h0] at hb1
              rw [Hlst.out h0] at hb2
              simp only at hb1 hb2
              rw [Nat.add_zero] at g0
              have h0' : (0 : Int) < (K.length : Int) := by omega
              have hsub : (K.length : Int) - 1 = ((K.length - 1 : Nat) : Int) := by omega
              have hd1 : decide (((K.length - 1 : Nat) : Int) < 0) = false := by simp
              have hd2 : ((K.length - 1 : Nat) : Int) < (K.length : Int) := by omega
              have Hb1 := Lib.hid hb1; have Hb2 := Lib.hid hb2; have HB := Lib.hid hB
              clear hb1 hb2 hB hr8 Hr8
              generalize K[0] = x0 at *
              generalize (K[K.length - 1]'(by omega)) = x1 at *
              go_wp2_with (go_at_call 45; (first | (with_reducible refine (Hb1.out).mono ?_) | (with_reducible refine (Hb2.out).mono ?_)); rintro e w9 ⟨rfl, rfl⟩)
              go_roundw
              case rel => exact ⟨k + 1, by omega, by go_num, HB.out⟩
              case measure => simp [intOf]; omega
            · have hz : K.length = 0 := by omega
              have hz' : ¬ (0 : Int) < (K.length : Int) := by omega
              clear hr8 Hr8
              go_wp2_with fail
              go_roundw
              case rel => exact ⟨k + 1, by omega, by go_num, bthen Hb.out Hb8.out⟩
              case measure => simp [intOf]; omega
          · obtain rfl : k = f.length := by omega
            have Hb := Lib.hid hb
            clear hb
            go_wp2_with fail
            go_ret
            exact ⟨by simp; omega, bthen Hb7.out Hb.out⟩
end Go.Proofs.Ytbbompmpecblgaa.LWBes
end
section
/- The law WalkBeside answers true at every input, and each argument reads afterwards as it read before; no condition. -/
namespace Go.Proofs.Ytbbompmpecblgaa.walkBeside
open Go.ChangeShapes Go.WideShapes Go.ChangeAt Go.RowKit
open Go.ChangeMaps (open_string shut_string)
set_option linter.unusedVariables false
theorem own : ownKnob Try.prog.godebug = none := by kernel_rfl
theorem laidOut : laidOutB Try.prog = true := by kernel_rfl
set_option maxRecDepth 100000 in
theorem lifted (os : Os) (started : os.Started) (H : Type) (enc : TypeId × Value → H) :
    ReturnsInHanded {} Try.checked os 16 .any (Rows.walkBesideSpec.pre6 enc Try.prog Try.f16 Rows.walkBesideRow.domain false) (Rows.walkBesideSpec.post enc Try.prog Try.f16 false true false false) := by
  refine returnsInHanded_of_change_sized (C := Try.checked) own started (by kernel_rfl) Try.func16
    (ChangeSpec.witness6 (enc := enc) (C := Try.checked) false ⟨#[], #[.slice none 0 0, .int .u8 0], []⟩ 8 (by kernel_rfl) (by kernel_rfl) (by kernel_rfl) (by kernel_rfl)) ?_
  intro W base args ds gs before hval0 hW hcnd hsz0 _
  have hsz : (DataW.weightsEach Try.prog (Try.f16.params.toList ++ Rows.walkBesideSpec.plain.varTypes Try.prog) (ds ++ gs)).all (· ≤ reachBytes) = true := hsz0
  have hval : ∀ (j : Nat) t v, Try.f16.params[j]? = some t → args[j]? = some v → Value.okWide Try.prog W .any base t v := hval0
  have hW' := hW
  obtain ⟨p, q, hA0, hV, rfl, hfz, hnd⟩ := hW
  have hA : DataW.TrodAll enc Try.prog W 0 (fun _ => true) true Try.f16.params.toList args.toList ds p := hA0
  rw [Try.params16] at hA hval hsz
  obtain ⟨v0, vs0, d0, ds0, p0, q0, hargs, rfl, rfl, h0, r0⟩ := trodAll_cons hA
  obtain ⟨v1, vs1, d1, ds1, p1, q1, rfl, rfl, rfl, h1, r1⟩ := trodAll_cons r0
  obtain ⟨rfl, rfl, rfl⟩ := trodAll_nil r1
  obtain rfl : args = #[v0, v1] := by cases args; simp_all
  obtain ⟨rfl, rfl⟩ := trodVars_none hV
  have k0 := h0
  have lt0 : ∀ x ∈ p0, x.block < W.heap.size := by obtain ⟨m, hm⟩ := k0; exact DataW.trod_lt m _ _ _ hm
  obtain ⟨l0, x0⟩ := Rd.open_list 6 Try.underlying49 (by kernel_rfl) (by decide) Shapes.opens_op_Op (hval 0 49 v0 rfl rfl) h0
  obtain ⟨a1, rfl, rfl, rfl, w1⟩ := open_int Try.underlying5 (hval 1 5 v1 rfl rfl) h1
  clear hA0 hval0 hsz0 hsz
  refine (LWBes.law_calls W l0 v0 x0 a1 w1).mono fun e W' ⟨he, bel⟩ => ?_
  subst he
  exact ⟨_, rfl, _, _, _, [], _, [], hW', trodAll_mk1 (shut_bool Try.underlying4 _), (trodAll_cons_mk (Below.trod laidOut (by kernel_rfl) (of_decide_eq_true (by kernel_rfl)) k0 bel lt0) (trodAll_cons_mk (shut_int Try.underlying5 w1) trodAll_mk0)), rfl, bel.frame _, fun h => by cases h⟩
set_option maxHeartbeats 20000000 in
theorem closed : joinedFacts Try.pinned.checked.prog 16 Try.f16 Rows.walkBesideSpec Rows.walkBesideRow = true := by
  unfold joinedFacts
  repeat' (with_reducible refine Bool.and_eq_true_iff.2 ⟨?_, ?_⟩)
  all_goals as_aux_lemma => kernel_rfl
theorem over : Rows.walkBesideRow.holds Try.pinned (OpenSpec.ofChange Rows.walkBesideSpec) :=
  OpenClaim.holds_of_wide 16 Try.f16 rfl rfl rfl rfl rfl rfl rfl ⟨rfl, rfl, rfl, rfl, rfl⟩ rfl rfl rfl rfl rfl (by kernel_rfl) Try.func16 closed
    (of_decide_eq_true (by kernel_rfl)) (by unfold Func.isWrapper; first | (rw [if_pos (by decide +kernel)]; kernel_rfl) | (rw [if_neg (by decide +kernel)]; exact ⟨rfl, rfl⟩))
    (fun os started H enc _ => lifted os started H enc)
theorem proved : Rows.WalkBesideSaid := over
end Go.Proofs.Ytbbompmpecblgaa.walkBeside
namespace Go.Proofs.Ytbbompmpecblgaa
/-- The row, under a short name, for the claim. -/
theorem walkBeside_holds : Rows.WalkBesideSaid := walkBeside.proved
#print axioms walkBeside_holds
end Go.Proofs.Ytbbompmpecblgaa
end
