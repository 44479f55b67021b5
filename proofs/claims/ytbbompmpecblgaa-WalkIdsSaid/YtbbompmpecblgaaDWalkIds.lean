/- The law WalkIds answers true at every input, and each argument reads afterwards as it read before; no condition. -/
import Derived.Test.YtbbompmpecblgaaRows
import Derived.WalkKit
import Derived.ProofKit
import Derived.OpenShut
import Derived.ShutString
import Derived.ChangeOld
import Derived.Below
import Derived.SizedLaws
import Derived.Test.YtbbompmpecblgaaC20
section
/- WalkIds. -/
namespace Go.Proofs.Ytbbompmpecblgaa.LWIds
open Go Go.RowKit Go.Proofs.Ytbbompmpecblgaa.Seq Go.Proofs.Ytbbompmpecblgaa.WS Go.Proofs.Ytbbompmpecblgaa.FS Go.Proofs.Ytbbompmpecblgaa.Mem Go.Proofs.Ytbbompmpecblgaa.Rd Go.Proofs.Ytbbompmpecblgaa.Shapes Go.Proofs.Ytbbompmpecblgaa.Word Go.Proofs.Ytbbompmpecblgaa.FFam Go.Proofs.Ytbbompmpecblgaa.Grown Go.Proofs.Ytbbompmpecblgaa.Wk
set_option linter.unusedVariables false
set_option linter.unusedSimpArgs false

theorem hit_bool {f : Fo} {text : ByteArray} {k : Int} : hitB f text k = (decide (attrErr f k idN = 0) && decide (attrVal f k idN = text) && decide (text.size ≠ 0)) := rfl
set_option maxRecDepth 100000 in
set_option maxHeartbeats 8000000 in
theorem law_calls (w : World) (l : List Opn) (v : Value) (h : RdO w.heap.size w v l) (text : ByteArray) :
    Calls Try.prog 15 #[v, .string text] w fun e w' => e = .returned (.bool true) ∧ Below w.heap.size w w' := by
  have hbn := bounded_calls w v l h
  have hrd := fun w' (hb : Below w.heap.size w w') => (h.below opE_keeps (w' := w') hb (Nat.le_refl _)).mono opE_keeps hb.size
  have hgr := fun w' hb => grown_calls w' v l (hrd w' hb)
  unfold GrownPost at hgr
  cases hB : bndO l with
  | false =>
    rw [hB] at hbn
    have Hbn := Lib.hid hbn
    clear hbn h hrd hgr
    go_enter Try.func15, Try.ntmps15
    go_wp2_with (first | (go_at_call 37; (with_reducible refine (Hbn.out).mono ?_); rintro e w5 ⟨rfl, rfl⟩) | (go_at_call 38; (with_reducible refine (shown_calls _).mono ?_); rintro e w6 ⟨rfl, hb6⟩; have Hb6 := Lib.hid hb6; clear hb6))
    go_ret
    exact ⟨rfl, Hb6.out⟩
  | true =>
    rw [hB] at hbn
    by_cases ht : 300 < text.size
    · have Hbn := Lib.hid hbn
      have ht' : (300 : Int) < (text.size : Int) := by omega
      clear hbn h hrd hgr
      go_enter Try.func15, Try.ntmps15
      go_wp2_with (first | (go_at_call 37; (with_reducible refine (Hbn.out).mono ?_); rintro e w5 ⟨rfl, rfl⟩) | (go_at_call 38; (with_reducible refine (shown_calls _).mono ?_); rintro e w6 ⟨rfl, hb6⟩; have Hb6 := Lib.hid hb6; clear hb6))
      go_ret
      exact ⟨rfl, Hb6.out⟩
    · have ht' : ¬ (300 : Int) < (text.size : Int) := by omega
      have hm := grow_may l
      obtain ⟨f, hf⟩ : ∃ f, f = growF l := ⟨_, rfl⟩
      rw [← hf] at hgr hm
      have hl60 := (may_is hm).len
      have hn0 : isNode f 0 = true := (node_iff f 0).2 ⟨by omega, by omega⟩
      have hO : orderL f 0 = order f 0 := if_pos hn0
      have hE : nodeErr f 0 = 0 := if_pos hn0
      have hol := order_len (may_is hm).fam (may_is hm).climb hn0
      have Hbn := Lib.hid hbn; have Hgr := Lib.hid hgr; have Hm := Lib.hid hm; have HO := Lib.hid hO; have HE := Lib.hid hE
      clear hbn h hrd hgr hm hO hE
      go_enter Try.func15, Try.ntmps15
      go_upto_region 4 with (first
        | (go_at_call 37; (with_reducible refine (Hbn.out).mono ?_); rintro e w5 ⟨rfl, rfl⟩)
        | (go_at_call 38; (with_reducible refine (shown_calls _).mono ?_); rintro e w6 ⟨rfl, hb6⟩; have Hb6 := Lib.hid hb6; clear hb6)
        | (go_at_call 39; (with_reducible refine (Hgr.out _ Hb6.out).mono ?_); rintro e w7 ⟨v7, rfl, hr7, hb7⟩; have Hr7 := Lib.hid hr7; have Hb7 := Lib.hid (bthen Hb6.out hb7); clear hr7 hb7))
      have hr := fun w' (hb : Below w7.heap.size w7 w') => (Hr7.out.below nodeE_keeps (w' := w') hb (Nat.le_refl _)).mono nodeE_keeps hb.size
      have h1 := fun w' hb => ById_calls w' v7 f (hr w' hb) Hm.out text
      have h2 := fun w' hb => Order_calls w' v7 f (hr w' hb) Hm.out 0 (by decide)
      have h3 := fun w' hb k => Attr_calls w' v7 f (hr w' hb) k ⟨#[105, 100]⟩
      unfold ByIdPost at h1
      unfold OrderPost at h2
      unfold AttrPost at h3
      rw [HO.out, HE.out] at h2
      have H1 := Lib.hid h1; have H2 := Lib.hid h2; have H3 := Lib.hid h3
      clear h1 h2 h3 hr
      obtain ⟨ei, hei⟩ : ∃ ei, byIdV f (byId f text) = ei := ⟨_, rfl⟩
      obtain ⟨ei, ee⟩ := ei
      rw [hei] at H1
      simp only at H1
      obtain ⟨L, hL⟩ : ∃ L, L = order f 0 := ⟨_, rfl⟩
      rw [← hL] at H2 hol
      have Hei := Lib.hid hei; have HL := Lib.hid hL
      clear hei hL
      go_upto_region 6 with (first
        | (go_at_call 43; (with_reducible refine (H1.out _ (Below.refl _ _)).mono ?_); rintro e w8 ⟨rfl, hb8⟩; have Hb8 := Lib.hid hb8; clear hb8)
        | (go_at_call 42; (with_reducible refine (H2.out _ Hb8.out).mono ?_); rintro e w9 ⟨v9, rfl, hr9, hb9⟩; have Hr9 := Lib.hid hr9; have Hb9 := Lib.hid (bthen Hb8.out hb9); clear hr9 hb9))
      obtain ⟨A9, c9, rfl, hl9, hc9, hr9'⟩ := Hr9.out.form
      simp only [maxLen] at hc9
      have HR9 := Lib.hid hr9'
      clear hr9'
      go_wp2_with fail
      go_loopw [10, 11, 12] (fun i _ _ wr => ∃ k : Nat, k ≤ L.length ∧ i = .int .i64 k ∧ Below w9.heap.size w9 wr ∧ Hid (∀ j (hj : j < L.length), j < k → hitB f text L[j] = false)) (fun i _ _ _ => L.length - (intOf i).toNat)
      case atStart => exact ⟨0, Nat.zero_le _, rfl, Below.refl _ _, Lib.hid (fun j _ h => absurd h (Nat.not_lt_zero _))⟩
      case round =>
        obtain ⟨k, hk, rfl, hb, hno⟩ := hrel
        by_cases hlt : k < L.length
        · obtain ⟨b, o, rfl, hbl, g0, _⟩ := intE_at (HR9.out.below (intE_keeps _) hb (Nat.le_refl _)) hlt
          have hgo := fun w' (hb : Below wr.heap.size wr w') => cell_grow hb g0
          have hat := H3.out wr (bthen Hb9.out hb) L[k]
          have hlt' : (k : Int) < (L.length : Int) := by omega
          have hk0 : decide ((k : Int) < 0) = false := by simp
          obtain ⟨E, hE⟩ : ∃ E, attrErr f L[k] ⟨#[105, 100]⟩ = E := ⟨_, rfl⟩
          obtain ⟨V, hV⟩ : ∃ V, attrVal f L[k] ⟨#[105, 100]⟩ = V := ⟨_, rfl⟩
          have hH : hitB f text L[k] = (decide (E = 0) && decide (V = text) && decide (text.size ≠ 0)) := by rw [← hE, ← hV]; rfl
          rw [hE, hV] at hat
          cases hx : hitB f text L[k] with
          | true =>
            rw [hx] at hH
            simp only [Bool.true_eq, Bool.and_eq_true, decide_eq_true_eq] at hH
            obtain ⟨⟨rfl, rfl⟩, hsz⟩ := hH
            have hlk : L[k] = (order f 0)[k]'(by rw [← HL.out]; exact hlt) := by simp only [HL.out]
            have hbi : byId f V = some L[k] := by
              rw [hlk]
              refine byId_hit _ (fun y hy => ?_) (by rw [← hlk]; exact hx)
              obtain ⟨j, hj, rfl⟩ := List.mem_iff_getElem.1 hy
              rw [List.length_take] at hj
              rw [List.getElem_take]
              have := hno.out j (by omega) (by omega)
              simpa only [HL.out] using this
            have he1 := Hei.out
            rw [hbi] at he1
            simp only [byIdV, Prod.mk.injEq] at he1
            obtain ⟨he1, he2⟩ := he1
            subst he2
            have hne : (!V.toList.isEmpty) = true := by rw [empty_dec]; exact decide_eq_true hsz
            have hne2 : V.toList.isEmpty = false := by simpa using hne
            have Hat := Lib.hid hat; have Hgo := Lib.hid hgo; have Hb := Lib.hid hb
            clear hat hgo hb hx hbi hlk hE hV hno hsz
            generalize L[k] = x at *
            subst he1
            go_wp2_with (go_at_call 44; (with_reducible refine (Hat.out).mono ?_); rintro e w10 ⟨rfl, hb10⟩; have g10 := Hgo.out w10 hb10; have Hb10 := Lib.hid hb10; clear hb10)
            go_ret
            exact ⟨rfl, bthen Hb7.out (bthen Hb9.out (bthen Hb.out Hb10.out))⟩
          | false =>
            rw [hx] at hH
            have hno2 : ∀ j (hj : j < L.length), j < k + 1 → hitB f text L[j] = false := fun j hj hjk => by
              by_cases e : j = k
              · subst e; exact hx
              · exact hno.out j hj (by omega)
            have Hno2 := Lib.hid hno2; have Hat := Lib.hid hat; have Hgo := Lib.hid hgo; have Hb := Lib.hid hb; have HH := Lib.hid hH
            clear hno2 hat hgo hb hx hE hV hno hH
            generalize L[k] = x at *
            go_wp2_with (go_at_call 44; (with_reducible refine (Hat.out).mono ?_); rintro e w10 ⟨rfl, hb10⟩; have g10 := Hgo.out w10 hb10; have Hb10 := Lib.hid hb10; clear hb10)
            all_goals first
              | (exfalso
                 have he : V.toList = text.toList := by assumption
                 have hE0 : E = 0 := by assumption
                 have ht2 : (!text.toList.isEmpty) = true := by assumption
                 have hh := HH.out
                 rw [FSame.str_inj] at he
                 rw [empty_dec] at ht2
                 rw [decide_eq_true he, decide_eq_true hE0, ht2] at hh
                 cases hh)
              | (go_roundw
                 case rel => exact ⟨k + 1, by omega, by go_num, bthen Hb.out Hb10.out, Hno2⟩
                 case measure => simp [intOf]; omega)
        · obtain rfl : k = L.length := by omega
          have hbi : byId f text = none := byId_none (fun y hy => by
            rw [← HL.out] at hy
            obtain ⟨j, hj, rfl⟩ := List.mem_iff_getElem.1 hy
            exact hno.out j hj hj)
          have he1 := Hei.out
          rw [hbi] at he1
          simp only [byIdV, Prod.mk.injEq] at he1
          obtain ⟨rfl, rfl⟩ := he1
          have Hb := Lib.hid hb
          clear hb hbi hno
          go_wp2_with fail
          go_ret
          exact ⟨rfl, bthen Hb7.out (bthen Hb9.out Hb.out)⟩
end Go.Proofs.Ytbbompmpecblgaa.LWIds
end
section
/- The law WalkIds answers true at every input, and each argument reads afterwards as it read before; no condition. -/
namespace Go.Proofs.Ytbbompmpecblgaa.walkIds
open Go.ChangeShapes Go.WideShapes Go.ChangeAt Go.RowKit
open Go.ChangeMaps (open_string shut_string)
set_option linter.unusedVariables false
theorem own : ownKnob Try.prog.godebug = none := by kernel_rfl
theorem laidOut : laidOutB Try.prog = true := by kernel_rfl
set_option maxRecDepth 100000 in
theorem lifted (os : Os) (started : os.Started) (H : Type) (enc : TypeId × Value → H) :
    ReturnsInHanded {} Try.checked os 15 .any (Rows.walkIdsSpec.pre6 enc Try.prog Try.f15 Rows.walkIdsRow.domain false) (Rows.walkIdsSpec.post enc Try.prog Try.f15 false true false false) := by
  refine returnsInHanded_of_change_sized (C := Try.checked) own started (by kernel_rfl) Try.func15
    (ChangeSpec.witness6 (enc := enc) (C := Try.checked) false ⟨#[], #[.slice none 0 0, .string ByteArray.empty], []⟩ 8 (by kernel_rfl) (by kernel_rfl) (by kernel_rfl) (by kernel_rfl)) ?_
  intro W base args ds gs before hval0 hW hcnd hsz0 _
  have hsz : (DataW.weightsEach Try.prog (Try.f15.params.toList ++ Rows.walkIdsSpec.plain.varTypes Try.prog) (ds ++ gs)).all (· ≤ reachBytes) = true := hsz0
  have hval : ∀ (j : Nat) t v, Try.f15.params[j]? = some t → args[j]? = some v → Value.okWide Try.prog W .any base t v := hval0
  have hW' := hW
  obtain ⟨p, q, hA0, hV, rfl, hfz, hnd⟩ := hW
  have hA : DataW.TrodAll enc Try.prog W 0 (fun _ => true) true Try.f15.params.toList args.toList ds p := hA0
  rw [Try.params15] at hA hval hsz
  obtain ⟨v0, vs0, d0, ds0, p0, q0, hargs, rfl, rfl, h0, r0⟩ := trodAll_cons hA
  obtain ⟨v1, vs1, d1, ds1, p1, q1, rfl, rfl, rfl, h1, r1⟩ := trodAll_cons r0
  obtain ⟨rfl, rfl, rfl⟩ := trodAll_nil r1
  obtain rfl : args = #[v0, v1] := by cases args; simp_all
  obtain ⟨rfl, rfl⟩ := trodVars_none hV
  have k0 := h0
  have lt0 : ∀ x ∈ p0, x.block < W.heap.size := by obtain ⟨m, hm⟩ := k0; exact DataW.trod_lt m _ _ _ hm
  obtain ⟨l0, x0⟩ := Rd.open_list 6 Try.underlying49 (by kernel_rfl) (by decide) Shapes.opens_op_Op (hval 0 49 v0 rfl rfl) h0
  obtain ⟨a1, rfl, rfl, rfl, y1⟩ := open_string Try.underlying9 (hval 1 9 v1 rfl rfl) h1
  clear hA0 hval0 hsz0 hsz
  refine (LWIds.law_calls W l0 v0 x0 a1).mono fun e W' ⟨he, bel⟩ => ?_
  subst he
  exact ⟨_, rfl, _, _, _, [], _, [], hW', trodAll_mk1 (shut_bool Try.underlying4 _), (trodAll_cons_mk (Below.trod laidOut (by kernel_rfl) (of_decide_eq_true (by kernel_rfl)) k0 bel lt0) (trodAll_cons_mk (shut_string Try.underlying9 y1) trodAll_mk0)), rfl, bel.frame _, fun h => by cases h⟩
set_option maxHeartbeats 20000000 in
theorem closed : joinedFacts Try.pinned.checked.prog 15 Try.f15 Rows.walkIdsSpec Rows.walkIdsRow = true := by
  unfold joinedFacts
  repeat' (with_reducible refine Bool.and_eq_true_iff.2 ⟨?_, ?_⟩)
  all_goals as_aux_lemma => kernel_rfl
theorem over : Rows.walkIdsRow.holds Try.pinned (OpenSpec.ofChange Rows.walkIdsSpec) :=
  OpenClaim.holds_of_wide 15 Try.f15 rfl rfl rfl rfl rfl rfl rfl ⟨rfl, rfl, rfl, rfl, rfl⟩ rfl rfl rfl rfl rfl (by kernel_rfl) Try.func15 closed
    (of_decide_eq_true (by kernel_rfl)) (by unfold Func.isWrapper; first | (rw [if_pos (by decide +kernel)]; kernel_rfl) | (rw [if_neg (by decide +kernel)]; exact ⟨rfl, rfl⟩))
    (fun os started H enc _ => lifted os started H enc)
theorem proved : Rows.WalkIdsSaid := over
end Go.Proofs.Ytbbompmpecblgaa.walkIds
namespace Go.Proofs.Ytbbompmpecblgaa
/-- The row, under a short name, for the claim. -/
theorem walkIds_holds : Rows.WalkIdsSaid := walkIds.proved
#print axioms walkIds_holds
end Go.Proofs.Ytbbompmpecblgaa
end
