/- The law WalkOrder answers true at every input, and each argument reads afterwards as it read before; no condition. -/
import Derived.Test.YtbbompmpecblgaaRows
import Derived.WalkKit
import Derived.ProofKit
import Derived.OpenShut
import Derived.ShutString
import Derived.ChangeOld
import Derived.Below
import Derived.SizedLaws
import Derived.Test.YtbbompmpecblgaaC20
section
/- WalkOrder. -/
namespace Go.Proofs.Ytbbompmpecblgaa.LWOrd
open Go Go.RowKit Go.Proofs.Ytbbompmpecblgaa.Seq Go.Proofs.Ytbbompmpecblgaa.WS Go.Proofs.Ytbbompmpecblgaa.FS Go.Proofs.Ytbbompmpecblgaa.Mem Go.Proofs.Ytbbompmpecblgaa.Rd Go.Proofs.Ytbbompmpecblgaa.Shapes Go.Proofs.Ytbbompmpecblgaa.Word Go.Proofs.Ytbbompmpecblgaa.FFam Go.Proofs.Ytbbompmpecblgaa.Grown Go.Proofs.Ytbbompmpecblgaa.Wk
set_option linter.unusedVariables false
set_option linter.unusedSimpArgs false

theorem sum_filt (p : Nat → Bool) (g : Nat → Nat) : ∀ l : List Nat, (l.map (fun j => if p j then g j else 0)).sum = ((l.filter p).map g).sum
  | [] => rfl
  | x :: l => by
    rw [List.map_cons, List.sum_cons, sum_filt p g l, List.filter_cons]
    cases p x <;> simp
/-- What has been counted. -/
noncomputable def allS (f : Fo) (k : Nat) : Nat := ((List.range k).map (fun j : Nat => if (at_ f (j : Int)).parent == -1 then (order f (j : Int)).length else 0)).sum
theorem allS_step (f : Fo) (k : Nat) : allS f (k + 1) = allS f k + if (at_ f (k : Int)).parent == -1 then (order f (k : Int)).length else 0 := by
  unfold allS
  rw [List.range_succ, List.map_append, List.sum_append]
  simp
theorem allS_end {f : Fo} (h : IsMay f) : allS f f.length = f.length := by
  have := tops_orders h
  unfold topsL at this
  rw [List.map_map] at this
  unfold allS
  rw [sum_filt (fun j : Nat => (at_ f (j : Int)).parent == -1) (fun j : Nat => (order f (j : Int)).length)]
  exact this
theorem allS_le {f : Fo} (h : IsMay f) : ∀ k, k ≤ f.length → allS f k ≤ k * 60
  | 0, _ => Nat.le_refl _
  | k + 1, hk => by
    rw [allS_step]
    have := allS_le h k (by omega)
    have := order_len h.fam h.climb (nodeI (f := f) (i := k) (by omega))
    have := h.len
    split <;> omega
set_option maxRecDepth 100000 in
set_option maxHeartbeats 8000000 in
theorem law_calls (w : World) (l : List Opn) (v : Value) (h : RdO w.heap.size w v l) :
    Calls Try.prog 14 #[v] w fun e w' => e = .returned (.bool true) ∧ Below w.heap.size w w' := by
  have hbn := bounded_calls w v l h
  have hrd := fun w' (hb : Below w.heap.size w w') => (h.below opE_keeps (w' := w') hb (Nat.le_refl _)).mono opE_keeps hb.size
  have hgr := fun w' hb => grown_calls w' v l (hrd w' hb)
  unfold GrownPost at hgr
  cases hB : bndO l with
  | false =>
    rw [hB] at hbn
    have Hbn := Lib.hid hbn
    clear hbn h hrd hgr
    go_enter Try.func14, Try.ntmps14
    go_wp2_with (first | (go_at_call 37; (with_reducible refine (Hbn.out).mono ?_); rintro e w5 ⟨rfl, rfl⟩) | (go_at_call 38; (with_reducible refine (shown_calls _).mono ?_); rintro e w6 ⟨rfl, hb6⟩; have Hb6 := Lib.hid hb6; clear hb6))
    go_ret
    exact ⟨rfl, Hb6.out⟩
  | true =>
    rw [hB] at hbn
    have hm := grow_may l
    obtain ⟨f, hf⟩ : ∃ f, f = growF l := ⟨_, rfl⟩
    rw [← hf] at hgr hm
    have hl60 := (may_is hm).len
    have Hbn := Lib.hid hbn; have Hgr := Lib.hid hgr; have Hm := Lib.hid hm
    clear hbn h hrd hgr hm hf
    go_enter Try.func14, Try.ntmps14
    go_upto_region 4 with (first | (go_at_call 37; (with_reducible refine (Hbn.out).mono ?_); rintro e w5 ⟨rfl, rfl⟩) | (go_at_call 38; (with_reducible refine (shown_calls _).mono ?_); rintro e w6 ⟨rfl, hb6⟩; have Hb6 := Lib.hid hb6; clear hb6) | (go_at_call 39; (with_reducible refine (Hgr.out _ Hb6.out).mono ?_); rintro e w7 ⟨v7, rfl, hr7, hb7⟩; have Hr7 := Lib.hid hr7; have Hb7 := Lib.hid (bthen Hb6.out hb7); clear hr7 hb7))
    obtain ⟨A7, c7, rfl, hl7, hc7, hr7⟩ := Hr7.out.form
    simp only [maxLen] at hc7
    have hr := fun w' (hb : Below w7.heap.size w7 w') => (hr7.below nodeE_keeps (w' := w') hb (Nat.le_refl _)).mono nodeE_keeps hb.size
    have hkm : ∀ n ∈ f, n.kids.length ≤ 1000 := fun n hn => by
      obtain ⟨i, hi, rfl⟩ := List.mem_iff_getElem.1 hn
      have := kids_len Hm.out (nodeI hi)
      rw [at_nat hi] at this
      omega
    have h1 := fun w' hb i hwi => Order_calls w' _ f (hr w' hb) Hm.out i hwi
    have h2 := fun w' hb a b => FBelow.Below_calls w' _ f a b (hr w' hb) hkm
    unfold OrderPost at h1
    have H1 := Lib.hid h1; have H2 := Lib.hid h2; have HR := Lib.hid hr
    clear h1 h2 hr hr7 Hgr Hr7 Hbn hkm
    go_wp2_with fail
    go_loopw [4, 5, 6, 7, 8, 9, 10, 11] (fun all id _ _ _ _ _ _ wr => ∃ k : Nat, k ≤ f.length ∧ id = .int .i64 k ∧ all = .int .i64 (allS f k : Nat) ∧ Below w7.heap.size w7 wr) (fun _ id _ _ _ _ _ _ _ => f.length - (intOf id).toNat)
    case atStart => exact ⟨0, Nat.zero_le _, rfl, rfl, Below.refl _ _⟩
    case round =>
      obtain ⟨k, hk, rfl, rfl, hb⟩ := hrel
      by_cases hlt : k < f.length
      · obtain ⟨b, o, Aa, ca, Ak, ck, rfl, hbl, g0, g1, g2, g3, g4, g5, ra, rk, la, lca, lk, lck, m1, m2, m3, m4⟩ := node_at (HR.out wr hb) hlt
        rw [← at_nat hlt] at g4
        have hn : isNode f (k : Int) = true := nodeI hlt
        have hoe := order_eq (may_is Hm.out).fam (may_is Hm.out).climb hn
        have hol := order_len (may_is Hm.out).fam (may_is Hm.out).climb hn
        have hcnt := fun (j : Nat) (hj : j < f.length) => order_count (may_is Hm.out) hn (nodeI hj)
        have hst := allS_step f k
        have hal := allS_le (may_is Hm.out) k hk
        have hc1 := H1.out wr hb k (by simp only [Lit.wf, Bool.and_eq_true, decide_eq_true_eq]; have e1 : IntKind.i64.min = -9223372036854775808 := rfl; have e2 : IntKind.i64.max = 9223372036854775807 := rfl; omega)
        rw [show orderL f k = order f k from if_pos hn, show nodeErr f k = 0 from if_pos hn] at hc1
        obtain ⟨L, hL⟩ : ∃ L, L = order f (k : Int) := ⟨_, rfl⟩
        rw [← hL] at hoe hol hst hc1
        have hcnt2 : ∀ (j : Nat), j < f.length → L.count (j : Int) = if belowB f k j then 1 else 0 := fun j hj => by rw [hL]; exact hcnt j hj
        have hL0 : 0 < L.length := by rw [hoe]; simp
        have hL1 : L[0] = (k : Int) := by simp only [hoe, List.getElem_cons_zero]
        have hd0 : decide ((k : Int) < 0) = false := by simp
        have hlt' : (k : Int) < (f.length : Int) := by omega
        have hLz : ((L.length : Int) == 0) = false := by simp; intro e; rw [e] at hL0; simp at hL0
        have hLz' : (0 : Int) < (L.length : Int) := by omega
        have hgo : ∀ w', Below wr.heap.size wr w' → w'.cell? ⟨b, o + k * 6 + 4, none⟩ = some (.int .i64 (at_ f (k : Int)).parent) := fun w' hb' => cell_grow hb' g4
        have Hc1 := Lib.hid hc1; have Hgo := Lib.hid hgo; have Hb := Lib.hid hb; have Hst := Lib.hid hst; have Hcnt := Lib.hid hcnt2
        clear hc1 hgo hb hst hcnt2 hcnt hoe hL ra rk la lca lk lck m1 m2 m3 m4 g0 g1 g2 g3 g4 g5
        go_upto_region 9 with (go_at_call 42; (with_reducible refine (Hc1.out).mono ?_); rintro e w8 ⟨v8, rfl, hr8, hb8⟩; have Hr8 := Lib.hid hr8; have Hb8 := Lib.hid hb8; clear hr8 hb8)
        obtain ⟨A8, c8, rfl, hl8, hc8, hr8⟩ := Hr8.out.form
        simp only [maxLen] at hc8
        obtain ⟨b8, o8, rfl, _, q0, _⟩ := intE_at hr8 hL0
        rw [hL1, Nat.add_zero] at q0
        have p4 := Hgo.out w8 Hb8.out
        have Hr := Lib.hid hr8
        clear hr8 Hr8
        go_upto_if 53 with fail
        go_cut [4] (fun t wx => t = .int .i64 (allS f (k + 1) : Nat) ∧ wx = w8)
        case first =>
          by_cases hp : (at_ f (k : Int)).parent = -1
          · have hp2 : ((at_ f (k : Int)).parent == -1) = true := by rw [hp]; rfl
            have hs : ((allS f k : Nat) : Int) + (L.length : Int) = ((allS f (k + 1) : Nat) : Int) := by rw [Hst.out, if_pos hp2]; simp
            go_wp2_with fail
            go_meet
            exact ⟨rfl, rfl⟩
          · have hp2 : ((at_ f (k : Int)).parent == -1) = false := by simpa using hp
            have hs : allS f k = allS f (k + 1) := by rw [Hst.out, hp2]; simp
            go_wp2_with fail
            go_meet
            exact ⟨by rw [hs], rfl⟩
        case rest =>
          obtain ⟨rfl, rfl⟩ := hcut
          have hmm := @run_makeMap Try.prog
          obtain ⟨w9, hw9⟩ : ∃ w9, wc.alloc (.map #[] 0) = w9 := ⟨_, rfl⟩
          have hb9 : Below wc.heap.size wc w9 := by rw [← hw9]; exact (Below.refl _ _).alloc (Nat.le_refl _) _
          have him : IMap w9 wc.heap.size (Value.int .i64) (fun _ => none) := IMap.new (by rw [← hw9]; exact World.alloc_heap_new _ _)
          have Hw9 := Lib.hid hw9; have Hb9 := Lib.hid hb9; have Him := Lib.hid him
          clear hw9 hb9 him p4
          go_upto_region 14 with fail
          rw [Hw9.out]
          clear hmm
          have K : KeyOK Try.prog 3 (Value.int .i64) := int_key Try.underlying3
          have HK := Lib.hid K
          clear K
          go_wp2_with fail
          go_loopw [9] (fun i wx => ∃ (j : Nat) (F : Int → Option Int), j ≤ L.length ∧ i = .int .i64 j ∧ Hid (IMap wx wc.heap.size (Value.int .i64) F) ∧ Hid (∀ x, (F x).getD 0 = ((L.take j).count x : Nat)) ∧ Hid (Below wc.heap.size wc wx)) (fun i _ => L.length - (intOf i).toNat)
          case atStart => exact ⟨0, _, Nat.zero_le _, rfl, Him, Lib.hid (fun x => by rw [List.take_zero]; rfl), Hb9⟩
          case round =>
            obtain ⟨j, F, hj, rfl, HM, HF, Hbx⟩ := hrel
            by_cases hjl : j < L.length
            · obtain ⟨b', o', he, _, q1, _⟩ := intE_at (Hr.out.below (intE_keeps _) Hbx.out (Nat.le_refl _)) hjl
              injection he with he
              injection he with he he' _
              subst he he'
              have hjl' : (j : Int) < (L.length : Int) := by omega
              have hj0 : decide ((j : Int) < 0) = false := by simp
              have htk : L.take (j + 1) = L.take j ++ [L[j]] := List.take_succ_eq_append_getElem hjl
              have hlk := HM.out.lookup HK.out (T := 59) Try.underlying59 Try.zeroValue3 L[j]
              have hcl := List.count_le_length (a := L[j]) (l := L.take j)
              have htl : (L.take j).length = j := by rw [List.length_take]; omega
              rw [HF.out] at hlk
              obtain ⟨ob, hup, hM2⟩ := HM.out.update HK.out (T := 59) Try.underlying59 L[j] (((L.take j).count L[j] : Nat) + 1)
              have hF2 : ∀ x, ((fun k' => if k' = L[j] then some (((L.take j).count L[j] : Nat) + 1 : Int) else F k') x).getD 0 = ((L.take (j + 1)).count x : Nat) := fun x => by
                rw [htk, List.count_append, List.count_singleton]
                by_cases hx : x = L[j]
                · subst hx; simp
                · have : (L[j] == x) = false := by rw [beq_eq_false_iff_ne]; exact fun e => hx e.symm
                  simp only [if_neg hx, this, HF.out]
                  simp
              have hbo : Below wc.heap.size wc (wr.putObj wc.heap.size ob) := Hbx.out.trans (Off.toBelow (Y := fun b => b = wc.heap.size) (Off.putObj _ _ _ rfl) Hbx.out.size (fun b h => by omega))
              have HM2 := Lib.hid hM2; have HF2 := Lib.hid hF2; have Hbo := Lib.hid hbo
              clear hM2 hF2 hbo htk
              generalize (L.take j).count L[j] = cn at *
              generalize L[j] = x at *
              go_wp2_with fail
              go_roundw
              case rel => exact ⟨j + 1, _, by omega, by go_num, HM2, HF2, Hbo⟩
              case measure => simp [intOf]; omega
            · obtain rfl : j = L.length := by omega
              rw [List.take_length] at HF
              have hlk : ∀ w', Below wr.heap.size wr w' → ∀ x : Int, (Instr.lookup 59 (.map (some wc.heap.size)) (.int .i64 x) false).run Try.prog w' = .ok (.int .i64 (L.count x : Nat)) w' := fun w' hb' x => by
                have := (HM.out.keep (hb'.block _ HM.out.lt)).lookup HK.out (T := 59) Try.underlying59 Try.zeroValue3 x
                rwa [HF.out] at this
              have Hlk := Lib.hid hlk
              have HB := Lib.hid (bthen Hb.out (bthen Hb8.out Hbx.out))
              clear hlk
              go_wp2_with fail
              go_loopw [10, 11] (fun i n wx => ∃ j : Nat, j ≤ f.length ∧ i = .int .i64 j ∧ Hid (Below wr.heap.size wr wx)) (fun i _ _ => f.length - (intOf i).toNat)
              case atStart => exact ⟨0, Nat.zero_le _, rfl, Lib.hid (Below.refl _ _)⟩
              case round =>
                obtain ⟨j, hj, rfl, Hby⟩ := hrel
                by_cases hjl : j < f.length
                · have hjl' : (j : Int) < (f.length : Int) := by omega
                  have hb1 := H2.out wr (bthen HB.out Hby.out) k j
                  have hcj := Hcnt.out j hjl
                  have hlk := fun w' hb' => Hlk.out w' (bthen Hby.out hb') j
                  rw [hcj] at hlk
                  have Hlk2 := Lib.hid hlk; have Hb1 := Lib.hid hb1
                  clear hlk hb1 hcj
                  cases hbb : belowB f k j with
                  | true =>
                    rw [hbb] at Hlk2 Hb1
                    simp only [if_true] at Hlk2
                    go_wp2_with (go_at_call 34; (with_reducible refine (Hb1.out).mono ?_); rintro e w10 ⟨rfl, hb10⟩; have hlk10 := Hlk2.out w10 hb10; have Hb10 := Lib.hid hb10; clear hb10)
                    go_roundw
                    case rel => exact ⟨j + 1, by omega, by go_num, Lib.hid (bthen Hby.out Hb10.out)⟩
                    case measure => simp [intOf]; omega
                  | false =>
                    rw [hbb] at Hlk2 Hb1
                    simp only [Bool.false_eq_true, if_false] at Hlk2
                    go_wp2_with (go_at_call 34; (with_reducible refine (Hb1.out).mono ?_); rintro e w10 ⟨rfl, hb10⟩; have hlk10 := Hlk2.out w10 hb10; have Hb10 := Lib.hid hb10; clear hb10)
                    go_roundw
                    case rel => exact ⟨j + 1, by omega, by go_num, Lib.hid (bthen Hby.out Hb10.out)⟩
                    case measure => simp [intOf]; omega
                · obtain rfl : j = f.length := by omega
                  go_wp2_with fail
                  go_roundw
                  case rel => exact ⟨k + 1, by omega, by go_num, rfl, bthen HB.out Hby.out⟩
                  case measure => simp [intOf]; omega
      · obtain rfl : k = f.length := by omega
        have Hb := Lib.hid hb
        clear hb
        rw [allS_end (may_is Hm.out)]
        go_wp2_with fail
        go_ret
        exact ⟨by simp; omega, bthen Hb7.out Hb.out⟩
end Go.Proofs.Ytbbompmpecblgaa.LWOrd
end
section
/- The law WalkOrder answers true at every input, and each argument reads afterwards as it read before; no condition. -/
namespace Go.Proofs.Ytbbompmpecblgaa.walkOrder
open Go.ChangeShapes Go.WideShapes Go.ChangeAt Go.RowKit
open Go.ChangeMaps (open_string shut_string)
set_option linter.unusedVariables false
theorem own : ownKnob Try.prog.godebug = none := by kernel_rfl
theorem laidOut : laidOutB Try.prog = true := by kernel_rfl
set_option maxRecDepth 100000 in
theorem lifted (os : Os) (started : os.Started) (H : Type) (enc : TypeId × Value → H) :
    ReturnsInHanded {} Try.checked os 14 .any (Rows.walkOrderSpec.pre6 enc Try.prog Try.f14 Rows.walkOrderRow.domain false) (Rows.walkOrderSpec.post enc Try.prog Try.f14 false true false false) := by
  refine returnsInHanded_of_change_sized (C := Try.checked) own started (by kernel_rfl) Try.func14
    (ChangeSpec.witness6 (enc := enc) (C := Try.checked) false ⟨#[], #[.slice none 0 0], []⟩ 8 (by kernel_rfl) (by kernel_rfl) (by kernel_rfl) (by kernel_rfl)) ?_
  intro W base args ds gs before hval0 hW hcnd hsz0 _
  have hsz : (DataW.weightsEach Try.prog (Try.f14.params.toList ++ Rows.walkOrderSpec.plain.varTypes Try.prog) (ds ++ gs)).all (· ≤ reachBytes) = true := hsz0
  have hval : ∀ (j : Nat) t v, Try.f14.params[j]? = some t → args[j]? = some v → Value.okWide Try.prog W .any base t v := hval0
  have hW' := hW
  obtain ⟨p, q, hA0, hV, rfl, hfz, hnd⟩ := hW
  have hA : DataW.TrodAll enc Try.prog W 0 (fun _ => true) true Try.f14.params.toList args.toList ds p := hA0
  rw [Try.params14] at hA hval hsz
  obtain ⟨v0, vs0, d0, ds0, p0, q0, hargs, rfl, rfl, h0, r0⟩ := trodAll_cons hA
  obtain ⟨rfl, rfl, rfl⟩ := trodAll_nil r0
  obtain rfl : args = #[v0] := by cases args; simp_all
  obtain ⟨rfl, rfl⟩ := trodVars_none hV
  have k0 := h0
  have lt0 : ∀ x ∈ p0, x.block < W.heap.size := by obtain ⟨m, hm⟩ := k0; exact DataW.trod_lt m _ _ _ hm
  obtain ⟨l0, x0⟩ := Rd.open_list 6 Try.underlying49 (by kernel_rfl) (by decide) Shapes.opens_op_Op (hval 0 49 v0 rfl rfl) h0
  clear hA0 hval0 hsz0 hsz
  refine (LWOrd.law_calls W l0 v0 x0).mono fun e W' ⟨he, bel⟩ => ?_
  subst he
  exact ⟨_, rfl, _, _, _, [], _, [], hW', trodAll_mk1 (shut_bool Try.underlying4 _), (trodAll_cons_mk (Below.trod laidOut (by kernel_rfl) (of_decide_eq_true (by kernel_rfl)) k0 bel lt0) trodAll_mk0), rfl, bel.frame _, fun h => by cases h⟩
set_option maxHeartbeats 20000000 in
theorem closed : joinedFacts Try.pinned.checked.prog 14 Try.f14 Rows.walkOrderSpec Rows.walkOrderRow = true := by
  unfold joinedFacts
  repeat' (with_reducible refine Bool.and_eq_true_iff.2 ⟨?_, ?_⟩)
  all_goals as_aux_lemma => kernel_rfl
theorem over : Rows.walkOrderRow.holds Try.pinned (OpenSpec.ofChange Rows.walkOrderSpec) :=
  OpenClaim.holds_of_wide 14 Try.f14 rfl rfl rfl rfl rfl rfl rfl ⟨rfl, rfl, rfl, rfl, rfl⟩ rfl rfl rfl rfl rfl (by kernel_rfl) Try.func14 closed
    (of_decide_eq_true (by kernel_rfl)) (by unfold Func.isWrapper; first | (rw [if_pos (by decide +kernel)]; kernel_rfl) | (rw [if_neg (by decide +kernel)]; exact ⟨rfl, rfl⟩))
    (fun os started H enc _ => lifted os started H enc)
theorem proved : Rows.WalkOrderSaid := over
end Go.Proofs.Ytbbompmpecblgaa.walkOrder
namespace Go.Proofs.Ytbbompmpecblgaa
/-- The row, under a short name, for the claim. -/
theorem walkOrder_holds : Rows.WalkOrderSaid := walkOrder.proved
#print axioms walkOrder_holds
end Go.Proofs.Ytbbompmpecblgaa
end
