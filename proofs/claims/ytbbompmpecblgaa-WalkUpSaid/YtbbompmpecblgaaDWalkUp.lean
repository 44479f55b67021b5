/- The law WalkUp answers true at every input, and each argument reads afterwards as it read before; no condition. -/
import Derived.Test.YtbbompmpecblgaaRows
import Derived.WalkKit
import Derived.ProofKit
import Derived.OpenShut
import Derived.ShutString
import Derived.ChangeOld
import Derived.Below
import Derived.SizedLaws
import Derived.Test.YtbbompmpecblgaaC20
section
/- WalkUp. -/
namespace Go.Proofs.Ytbbompmpecblgaa.LWUp
open Go Go.RowKit Go.Proofs.Ytbbompmpecblgaa.Seq Go.Proofs.Ytbbompmpecblgaa.WS Go.Proofs.Ytbbompmpecblgaa.FS Go.Proofs.Ytbbompmpecblgaa.Mem Go.Proofs.Ytbbompmpecblgaa.Rd Go.Proofs.Ytbbompmpecblgaa.Shapes Go.Proofs.Ytbbompmpecblgaa.Word Go.Proofs.Ytbbompmpecblgaa.FFam Go.Proofs.Ytbbompmpecblgaa.Grown Go.Proofs.Ytbbompmpecblgaa.Wk
set_option linter.unusedVariables false
set_option linter.unusedSimpArgs false

set_option maxRecDepth 100000 in
set_option maxHeartbeats 8000000 in
theorem law_calls (w : World) (l : List Opn) (v : Value) (h : RdO w.heap.size w v l) :
    Calls Try.prog 13 #[v] w fun e w' => e = .returned (.bool true) ∧ Below w.heap.size w w' := by
  have hbn := bounded_calls w v l h
  have hrd := fun w' (hb : Below w.heap.size w w') => (h.below opE_keeps (w' := w') hb (Nat.le_refl _)).mono opE_keeps hb.size
  have hgr := fun w' hb => grown_calls w' v l (hrd w' hb)
  unfold GrownPost at hgr
  cases hB : bndO l with
  | false =>
    rw [hB] at hbn
    have Hbn := Lib.hid hbn
    clear hbn h hrd hgr
    go_enter Try.func13, Try.ntmps13
    go_wp2_with (first | (go_at_call 37; (with_reducible refine (Hbn.out).mono ?_); rintro e w5 ⟨rfl, rfl⟩) | (go_at_call 38; (with_reducible refine (shown_calls _).mono ?_); rintro e w6 ⟨rfl, hb6⟩; have Hb6 := Lib.hid hb6; clear hb6))
    go_ret
    exact ⟨rfl, Hb6.out⟩
  | true =>
    rw [hB] at hbn
    have hm := grow_may l
    obtain ⟨f, hf⟩ : ∃ f, f = growF l := ⟨_, rfl⟩
    rw [← hf] at hgr hm
    have hl60 := (may_is hm).len
    have Hbn := Lib.hid hbn; have Hgr := Lib.hid hgr; have Hm := Lib.hid hm
    clear hbn h hrd hgr hm hf
    go_enter Try.func13, Try.ntmps13
    go_upto_region 4 with (first | (go_at_call 37; (with_reducible refine (Hbn.out).mono ?_); rintro e w5 ⟨rfl, rfl⟩) | (go_at_call 38; (with_reducible refine (shown_calls _).mono ?_); rintro e w6 ⟨rfl, hb6⟩; have Hb6 := Lib.hid hb6; clear hb6) | (go_at_call 39; (with_reducible refine (Hgr.out _ Hb6.out).mono ?_); rintro e w7 ⟨v7, rfl, hr7, hb7⟩; have Hr7 := Lib.hid hr7; have Hb7 := Lib.hid (bthen Hb6.out hb7); clear hr7 hb7))
    obtain ⟨A7, c7, rfl, hl7, hc7, hr7⟩ := Hr7.out.form
    simp only [maxLen] at hc7
    have hr := fun w' (hb : Below w7.heap.size w7 w') => (hr7.below nodeE_keeps (w' := w') hb (Nat.le_refl _)).mono nodeE_keeps hb.size
    have hkm : ∀ n ∈ f, n.kids.length ≤ 1000 := fun n hn => by
      obtain ⟨i, hi, rfl⟩ := List.mem_iff_getElem.1 hn
      have := kids_len Hm.out (nodeI hi)
      rw [at_nat hi] at this
      omega
    have h1 := fun w' hb i => Parent_calls w' _ f (hr w' hb) i
    have h2 := fun w' hb a b => FBelow.Below_calls w' _ f a b (hr w' hb) hkm
    have H1 := Lib.hid h1; have H2 := Lib.hid h2; have HR := Lib.hid hr
    clear h1 h2 hr hr7 Hgr Hr7 Hbn hkm
    go_wp2_with fail
    go_loopw [4, 5, 6, 7, 8, 9, 10] (fun id _ _ _ _ _ _ wr => ∃ k : Nat, k ≤ f.length ∧ id = .int .i64 k ∧ Below w7.heap.size w7 wr) (fun id _ _ _ _ _ _ _ => f.length - (intOf id).toNat)
    case atStart => exact ⟨0, Nat.zero_le _, rfl, Below.refl _ _⟩
    case round =>
      obtain ⟨k, hk, rfl, hb⟩ := hrel
      by_cases hlt : k < f.length
      · have hn : isNode f (k : Int) = true := nodeI hlt
        obtain ⟨n0, hup⟩ := (may_is Hm.out).climb k hlt
        have hac := above_count (may_is Hm.out) n0 hn hup
        have hdl := depth_le (may_is Hm.out) hn hup
        have hlt' : (k : Int) < (f.length : Int) := by omega
        have Hb := Lib.hid hb; have Hup := Lib.hid hup; have Hac := Lib.hid hac
        clear hb hup hac hn
        go_wp2_with fail
        go_loopw [5, 6, 7, 8] (fun at_v n _ _ wx => ∃ (m a : Nat), at_v = .int .i64 a ∧ n = .int .i64 m ∧ m < n0 ∧ a < f.length ∧ FS.Reach f m k a ∧ Up f (n0 - m) a ∧ Below w7.heap.size w7 wx) (fun _ n _ _ _ => 100 - (intOf n).toNat)
        case atStart => exact ⟨0, k, rfl, rfl, by omega, hlt, rfl, by rw [Nat.sub_zero]; exact Hup.out, Hb.out⟩
        case round =>
          obtain ⟨m, a, rfl, rfl, hm, ha, hre, hua, hbx⟩ := hrel
          have hna : isNode f (a : Int) = true := nodeI ha
          have hm100 : (m : Int) < 100 := by omega
          have hp1 := H1.out wr hbx a
          obtain ⟨b, o, Aa, ca, Ak, ck, rfl, hbl, g0, g1, g2, g3, g4, g5, ra, rk, la, lca, lk, lck, m1, m2, m3, m4⟩ := node_at (HR.out wr hbx) ha
          rw [← at_nat ha] at g4
          have hla : (a : Int) < (f.length : Int) := by omega
          have ha0 : decide ((a : Int) < 0) = false := by simp
          obtain ⟨q1, q2, _⟩ := (may_is Hm.out).par a ha
          obtain ⟨s, hs⟩ : ∃ s, n0 - m = s + 1 := ⟨n0 - m - 1, by omega⟩
          rw [hs] at hua
          have hua2 : Up f s (at_ f (a : Int)).parent := hua.2
          have hre2 := hre.snoc (by omega)
          by_cases hpar : (at_ f (a : Int)).parent = -1
          · rw [show parentE f a = (0, 3) by unfold parentE; rw [if_neg (by rw [hna]; decide), if_pos hpar]] at hp1
            have hmn : m + 1 = n0 := by
              cases s with
              | zero => omega
              | succ s => rw [hpar] at hua2; have : (0 : Int) ≤ -1 := hua2.1; omega
            rw [hpar] at g4
            simp only at hp1
            have hgo := fun w' (hb : Below wr.heap.size wr w') => cell_grow hb g4
            have Hp1 := Lib.hid hp1; have Hbx := Lib.hid hbx; have Hgo := Lib.hid hgo
            clear hp1 hbx hgo hre2 hua2 hua hre ra rk la lca lk lck m1 m2 m3 m4 g0 g1 g2 g3 g5 q1 q2
            go_wp2_with (go_at_call 41; (with_reducible refine (Hp1.out).mono ?_); rintro e w8 ⟨rfl, rfl⟩)
            go_loopw [9, 10] (fun ab i wx => ∃ j : Nat, j ≤ f.length ∧ i = .int .i64 j ∧ ab = .int .i64 ((List.range j).countP (fun x : Nat => belowB f x k) : Nat) ∧ Below wr.heap.size wr wx) (fun _ i _ => f.length - (intOf i).toNat)
            case atStart => exact ⟨0, Nat.zero_le _, rfl, rfl, Below.refl _ _⟩
            case round =>
              obtain ⟨j, hj, rfl, rfl, hby⟩ := hrel
              by_cases hjl : j < f.length
              · have hb1 := H2.out wr (bthen Hbx.out hby) j k
                have hcs : (List.range (j + 1)).countP (fun x : Nat => belowB f x k) = (List.range j).countP (fun x : Nat => belowB f x k) + if belowB f j k then 1 else 0 := by
                  rw [List.range_succ, List.countP_append]
                  simp [List.countP_cons]
                have hcl := List.countP_le_length (p := fun x : Nat => belowB f x k) (l := List.range j)
                rw [List.length_range] at hcl
                have hjl' : (j : Int) < (f.length : Int) := by omega
                obtain ⟨C, hC⟩ : ∃ C, C = (List.range j).countP (fun x : Nat => belowB f x k) := ⟨_, rfl⟩
                rw [← hC] at hcs hcl ⊢
                have Hb1 := Lib.hid hb1; have Hby := Lib.hid hby; have Hcs := Lib.hid hcs
                clear hb1 hby hcs hC
                cases hbb : belowB f j k with
                | true =>
                  rw [hbb] at Hb1 Hcs
                  go_wp2_with (go_at_call 34; (with_reducible refine (Hb1.out).mono ?_); rintro e w9 ⟨rfl, hb9⟩; have Hb9 := Lib.hid hb9; clear hb9)
                  go_roundw
                  case rel => exact ⟨j + 1, by omega, by go_num, by rw [Hcs.out]; simp, bthen Hby.out Hb9.out⟩
                  case measure => simp [intOf]; omega
                | false =>
                  rw [hbb] at Hb1 Hcs
                  go_wp2_with (go_at_call 34; (with_reducible refine (Hb1.out).mono ?_); rintro e w9 ⟨rfl, hb9⟩; have Hb9 := Lib.hid hb9; clear hb9)
                  go_roundw
                  case rel => exact ⟨j + 1, by omega, by go_num, by rw [Hcs.out]; rfl, bthen Hby.out Hb9.out⟩
                  case measure => simp [intOf]; omega
              · obtain rfl : j = f.length := by omega
                have g4' := Hgo.out wr hby
                rw [Hac.out]
                have hnn : ((n0 : Int) != (m : Int) + 1) = false := by simp; omega
                have Hby := Lib.hid hby
                clear hby
                go_wp2_with fail
                go_roundw
                case rel => exact ⟨k + 1, by omega, by go_num, bthen Hbx.out Hby.out⟩
                case measure => simp [intOf]; omega
          · obtain ⟨p, hp⟩ : ∃ p : Nat, (at_ f (a : Int)).parent = p := ⟨(at_ f (a : Int)).parent.toNat, by omega⟩
            have hpl : p < f.length := by omega
            rw [show parentE f a = ((p : Int), 0) by unfold parentE; rw [if_neg (by rw [hna]; decide), if_neg hpar, hp]] at hp1
            simp only at hp1
            rw [hp] at hre2 hua2
            have hbt : belowB f p k = true := (below_iff Hm.out (nodeI hlt)).2 ⟨by omega, m + 1, hre2⟩
            have hs1 : 1 ≤ s := by
              cases s with
              | zero => have : (p : Int) < 0 := hua2; omega
              | succ s => omega
            have hb1 := fun w' hb => H2.out w' hb p k
            rw [hbt] at hb1
            have Hp1 := Lib.hid hp1; have Hbx := Lib.hid hbx; have Hb1 := Lib.hid hb1; have Hre := Lib.hid hre2; have Hua := Lib.hid (show Up f (n0 - (m + 1)) p by rw [show n0 - (m + 1) = s by omega]; exact hua2)
            clear hp1 hbx hb1 hre2 hua2 hua hre ra rk la lca lk lck m1 m2 m3 m4 g0 g1 g2 g3 g4 g5 q1 q2 hpar hp hbt
            go_wp2_with (first | (go_at_call 41; (with_reducible refine (Hp1.out).mono ?_); rintro e w8 ⟨rfl, rfl⟩) | (go_at_call 34; (with_reducible refine (Hb1.out _ Hbx.out).mono ?_); rintro e w9 ⟨rfl, hb9⟩; have Hb9 := Lib.hid hb9; clear hb9))
            go_roundw
            case rel => exact ⟨m + 1, p, rfl, by go_num, by omega, hpl, Hre.out, Hua.out, bthen Hbx.out Hb9.out⟩
            case measure => simp [intOf]; omega
      · obtain rfl : k = f.length := by omega
        have Hb := Lib.hid hb
        clear hb
        go_wp2_with fail
        go_ret
        exact ⟨by simp; omega, bthen Hb7.out Hb.out⟩
end Go.Proofs.Ytbbompmpecblgaa.LWUp
end
section
/- The law WalkUp answers true at every input, and each argument reads afterwards as it read before; no condition. -/
namespace Go.Proofs.Ytbbompmpecblgaa.walkUp
open Go.ChangeShapes Go.WideShapes Go.ChangeAt Go.RowKit
open Go.ChangeMaps (open_string shut_string)
set_option linter.unusedVariables false
theorem own : ownKnob Try.prog.godebug = none := by kernel_rfl
theorem laidOut : laidOutB Try.prog = true := by kernel_rfl
set_option maxRecDepth 100000 in
theorem lifted (os : Os) (started : os.Started) (H : Type) (enc : TypeId × Value → H) :
    ReturnsInHanded {} Try.checked os 13 .any (Rows.walkUpSpec.pre6 enc Try.prog Try.f13 Rows.walkUpRow.domain false) (Rows.walkUpSpec.post enc Try.prog Try.f13 false true false false) := by
  refine returnsInHanded_of_change_sized (C := Try.checked) own started (by kernel_rfl) Try.func13
    (ChangeSpec.witness6 (enc := enc) (C := Try.checked) false ⟨#[], #[.slice none 0 0], []⟩ 8 (by kernel_rfl) (by kernel_rfl) (by kernel_rfl) (by kernel_rfl)) ?_
  intro W base args ds gs before hval0 hW hcnd hsz0 _
  have hsz : (DataW.weightsEach Try.prog (Try.f13.params.toList ++ Rows.walkUpSpec.plain.varTypes Try.prog) (ds ++ gs)).all (· ≤ reachBytes) = true := hsz0
  have hval : ∀ (j : Nat) t v, Try.f13.params[j]? = some t → args[j]? = some v → Value.okWide Try.prog W .any base t v := hval0
  have hW' := hW
  obtain ⟨p, q, hA0, hV, rfl, hfz, hnd⟩ := hW
  have hA : DataW.TrodAll enc Try.prog W 0 (fun _ => true) true Try.f13.params.toList args.toList ds p := hA0
  rw [Try.params13] at hA hval hsz
  obtain ⟨v0, vs0, d0, ds0, p0, q0, hargs, rfl, rfl, h0, r0⟩ := trodAll_cons hA
  obtain ⟨rfl, rfl, rfl⟩ := trodAll_nil r0
  obtain rfl : args = #[v0] := by cases args; simp_all
  obtain ⟨rfl, rfl⟩ := trodVars_none hV
  have k0 := h0
  have lt0 : ∀ x ∈ p0, x.block < W.heap.size := by obtain ⟨m, hm⟩ := k0; exact DataW.trod_lt m _ _ _ hm
  obtain ⟨l0, x0⟩ := Rd.open_list 6 Try.underlying49 (by kernel_rfl) (by decide) Shapes.opens_op_Op (hval 0 49 v0 rfl rfl) h0
  clear hA0 hval0 hsz0 hsz
  refine (LWUp.law_calls W l0 v0 x0).mono fun e W' ⟨he, bel⟩ => ?_
  subst he
  exact ⟨_, rfl, _, _, _, [], _, [], hW', trodAll_mk1 (shut_bool Try.underlying4 _), (trodAll_cons_mk (Below.trod laidOut (by kernel_rfl) (of_decide_eq_true (by kernel_rfl)) k0 bel lt0) trodAll_mk0), rfl, bel.frame _, fun h => by cases h⟩
set_option maxHeartbeats 20000000 in
theorem closed : joinedFacts Try.pinned.checked.prog 13 Try.f13 Rows.walkUpSpec Rows.walkUpRow = true := by
  unfold joinedFacts
  repeat' (with_reducible refine Bool.and_eq_true_iff.2 ⟨?_, ?_⟩)
  all_goals as_aux_lemma => kernel_rfl
theorem over : Rows.walkUpRow.holds Try.pinned (OpenSpec.ofChange Rows.walkUpSpec) :=
  OpenClaim.holds_of_wide 13 Try.f13 rfl rfl rfl rfl rfl rfl rfl ⟨rfl, rfl, rfl, rfl, rfl⟩ rfl rfl rfl rfl rfl (by kernel_rfl) Try.func13 closed
    (of_decide_eq_true (by kernel_rfl)) (by unfold Func.isWrapper; first | (rw [if_pos (by decide +kernel)]; kernel_rfl) | (rw [if_neg (by decide +kernel)]; exact ⟨rfl, rfl⟩))
    (fun os started H enc _ => lifted os started H enc)
theorem proved : Rows.WalkUpSaid := over
end Go.Proofs.Ytbbompmpecblgaa.walkUp
namespace Go.Proofs.Ytbbompmpecblgaa
/-- The row, under a short name, for the claim. -/
theorem walkUp_holds : Rows.WalkUpSaid := walkUp.proved
#print axioms walkUp_holds
end Go.Proofs.Ytbbompmpecblgaa
end
