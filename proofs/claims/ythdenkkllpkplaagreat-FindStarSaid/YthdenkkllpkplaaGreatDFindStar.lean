/- The law FindStar answers true at every input, and each argument reads afterwards as it read before; no condition. -/
import Derived.Test.YthdenkkllpkplaaGreatRows
import Derived.WalkKit
import Derived.ProofKit
import Derived.OpenShut
import Derived.ShutString
import Derived.ChangeOld
import Derived.Below
import Derived.SizedLaws
import Derived.Test.YthdenkkllpkplaaGreatC22
import Derived.Test.YthdenkkllpkplaaGreatC08
section
/- treillagelaw10.FindStar. -/
namespace Go.Proofs.YthdenkkllpkplaaGreat.LStar
open Go Go.RowKit Go.Proofs.YthdenkkllpkplaaGreat.Seq Go.Proofs.YthdenkkllpkplaaGreat.WS Go.Proofs.YthdenkkllpkplaaGreat.FS Go.Proofs.YthdenkkllpkplaaGreat.Mem Go.Proofs.YthdenkkllpkplaaGreat.Rd Go.Proofs.YthdenkkllpkplaaGreat.Shapes Go.Proofs.YthdenkkllpkplaaGreat.Word Go.Proofs.YthdenkkllpkplaaGreat.FFam Go.Proofs.YthdenkkllpkplaaGreat.Grown Go.Proofs.YthdenkkllpkplaaGreat.Fn Go.Proofs.YthdenkkllpkplaaGreat.Pa Go.Proofs.YthdenkkllpkplaaGreat.Fi
set_option linter.unusedVariables false
set_option linter.unusedSimpArgs false
theorem u8_nat' {a : Int} (h : (Lit.int .u8 a).wf = true) : ∃ n : Nat, a = n ∧ n ≤ 255 := by
  simp only [Lit.wf, Bool.and_eq_true, decide_eq_true_eq] at h
  have h0 : (0 : Int) ≤ a := h.1
  have h1 : a ≤ 255 := h.2
  exact ⟨a.toNat, by omega, by omega⟩
theorem rem_nat (a b : Nat) (hb : 0 < b) : (a : Int) % (b : Int) = ((a % b : Nat) : Int) ∧ Int.tmod (a : Int) (b : Int) = ((a % b : Nat) : Int) := by
  have h1 : (a : Int) % (b : Int) = ((a % b : Nat) : Int) := by omega
  exact ⟨h1, by rw [Int.tmod_eq_emod_of_nonneg (by omega)]; exact h1⟩
set_option maxRecDepth 100000 in
set_option maxHeartbeats 8000000 in
theorem law_calls (w : World) (l : List Opn) (v : Value) (h : RdO w.heap.size w v l) (t : Int) (ht : (Lit.int .u8 t).wf = true) :
    Calls Tryz.prog 15 #[v, .int .u8 t] w fun e w' => e = .returned (.bool true) ∧ Below w.heap.size w w' := by
  have hbn := Fi.bounded_calls w v l h
  have hgr := fun w' (hb : Below w.heap.size w w') => Fi.grown_calls w' v l ((h.below opE_keeps (w' := w') hb (Nat.le_refl _)).mono opE_keeps hb.size)
  unfold Fi.GrownPost at hgr
  obtain ⟨A0, c0, rfl, hl0, hc0, _⟩ := h.form
  simp only [maxLen] at hc0
  cases hB : bndO l with
  | false =>
    rw [hB] at hbn
    have Hbn := Lib.hid hbn
    clear hbn hB ht hgr h
    go_enter Tryz.func15, Tryz.ntmps15
    go_wp2_with (first | (go_at_call 32; (with_reducible refine (Hbn.out).mono ?_); rintro e w5 ⟨rfl, rfl⟩; clear Hbn) | (go_at_call 34; (with_reducible refine (Fi.shown_calls _).mono ?_); rintro e w6 ⟨rfl, hb6⟩; have Hb6 := Lib.hid hb6; clear hb6))
    go_ret
    exact ⟨rfl, Hb6.out⟩
  | true =>
    rw [hB] at hbn
    have hm := grow_may l
    have hsm := Fi.grow_sm hB
    obtain ⟨tn, rfl, htn⟩ := u8_nat' ht
    obtain ⟨f, hf⟩ : ∃ f, f = growF l := ⟨_, rfl⟩
    rw [← hf] at hm hsm
    simp only [← hf] at hgr
    have hlen := may_len hm
    have Hbn := Lib.hid hbn; have Hgr := Lib.hid hgr; have Hm := Lib.hid hm; have Hsm := Lib.hid hsm
    clear hbn hB ht hgr h hf hm hsm
    have hp : ∀ w', Calls Tryz.prog 47 #[.string ⟨#[42]⟩] w' (fun e w'' => ∃ v, e = .returned (.tuple #[v, .int .i64 0, .int .i64 0]) ∧ RdSel w''.heap.size w'' v starL ∧ Below w'.heap.size w' w'') := fun w' => by
      refine (parse_calls ⟨#[42]⟩ (by decide) w').mono ?_
      unfold ParseQ
      rw [star_parse]
      rintro e w'' ⟨hb, v, rfl, hr⟩
      exact ⟨v, rfl, sel_of hr, hb⟩
    have Hp := Lib.hid hp
    clear hp
    go_enter Tryz.func15, Tryz.ntmps15
    go_upto_region 5 with (first | (go_at_call 32; (with_reducible refine (Hbn.out).mono ?_); rintro e w5 ⟨rfl, rfl⟩; clear Hbn) | (go_at_call 34; (with_reducible refine (Fi.shown_calls _).mono ?_); rintro e w6 ⟨rfl, hb6⟩; have Hb6 := Lib.hid hb6; clear hb6) | (go_at_call 35; (with_reducible refine (Hgr.out _ Hb6.out).mono ?_); rintro e w7 ⟨v7, rfl, hr7, hb7⟩; have Hr7 := Lib.hid hr7; have Hb7 := Lib.hid (bthen Hb6.out hb7); clear hr7 hb7) | (go_at_call 47; (with_reducible refine (Hp.out _).mono ?_); rintro e w8 ⟨v8, rfl, hr8, hb8⟩; have Hr8 := Lib.hid hr8; have Hb8 := Lib.hid hb8; clear hr8 hb8))
    obtain ⟨A7, c7, rfl, hl7, hc7, hr7⟩ := Hr7.out.form
    simp only [maxLen] at hc7
    have hrd := fun w' (hb : Below w7.heap.size w7 w') => (hr7.below nodeE_keeps (w' := w') hb (Nat.le_refl _)).mono nodeE_keeps hb.size
    obtain ⟨tt, htt⟩ : ∃ m, m = tn % f.length := ⟨_, rfl⟩
    have htt6 : tt < f.length := by rw [htt]; exact Nat.mod_lt _ (by omega)
    obtain ⟨u1, u2⟩ := rem_nat tn f.length (by omega)
    rw [← htt] at u1 u2
    have hq : ((f.length : Int) == 0) = false := by rw [beq_eq_false_iff_ne]; omega
    have hnode : isNode f (tt : Int) = true := by unfold isNode; rw [Bool.and_eq_true, decide_eq_true_eq, decide_eq_true_eq]; omega
    have hwt : (Lit.int .i64 (tt : Int)).wf = true := by
      simp only [Lit.wf, Bool.and_eq_true, decide_eq_true_eq]
      exact ⟨Int.le_trans (by decide) (Int.natCast_nonneg tt), Int.le_trans (show (tt : Int) ≤ 100 by omega) (by decide)⟩
    have hor := fun w' (hb : Below w7.heap.size w7 w') => Wk.Order_calls w' _ f (hrd w' hb) Hm.out (tt : Int) hwt
    unfold Wk.OrderPost at hor
    rw [show Wk.nodeErr f (tt : Int) = 0 from if_pos hnode] at hor
    obtain ⟨O, hO⟩ : ∃ O, O = Wk.orderL f (tt : Int) := ⟨_, rfl⟩
    simp only [← hO] at hor
    have HO := Lib.hid hO
    clear hO
    have Hor := Lib.hid hor; have Hrd := Lib.hid hrd; have Htt := Lib.hid htt; have Hnode := Lib.hid hnode; have Hwt := Lib.hid hwt
    clear hor hrd htt hnode hwt hr7 Hr7
    go_upto_region 9 with (go_at_call 48; (with_reducible refine (Hor.out _ Hb8.out).mono ?_); rintro e w9 ⟨v9, rfl, hr9, hb9⟩; have Hr9 := Lib.hid hr9; have Hb9 := Lib.hid hb9; clear hr9 hb9)
    obtain ⟨A9, c9, rfl, l9, m9, _⟩ := Hr9.out.form
    simp only [maxLen] at m9
    have hon : ∀ x ∈ O, isNode f x = true := fun x hx => by
      have h := may_is Hm.out
      rw [HO.out, Wk.orderL, if_pos Hnode.out] at hx
      exact ((order_mem h Hnode.out x).1 hx).1
    have hol : O.length ≤ 60 := by rw [HO.out]; exact orderL_len Hm.out _
    obtain ⟨p, hp⟩ : ∃ p : Int → Bool, p = fun x => decide ((at_ f x).kind = 1) := ⟨_, rfl⟩
    have Hon := Lib.hid hon; have Hp2 := Lib.hid hp
    clear hon hp
    go_wp2_with fail
    go_loopw [12, 13] (fun u i wr => ∃ k : Nat, k ≤ O.length ∧ i = .int .i64 k ∧ Hid (wr.ownsRow w9.heap.size 3 1 u ((O.take k).filter p).length (((O.take k).filter p).map (Value.int .i64))) ∧ Hid (Below w9.heap.size w9 wr)) (fun _ i _ => O.length - (intOf i).toNat)
    case atStart => exact ⟨0, Nat.zero_le _, rfl, Lib.hid (World.ownsRow_lit w9 #[] 0 (Nat.le_refl _) (by decide) rfl), Lib.hid ((Below.refl _ _).alloc (Nat.le_refl _) _)⟩
    case round =>
      obtain ⟨k, hk, rfl, hrow, hb⟩ := hrel
      obtain ⟨Ar, cr, rfl⟩ := LShown.slice_of hrow.out
      by_cases hlt : k < O.length
      · obtain ⟨b, o, rfl, _, g0, gw⟩ := intE_at (Hr9.out.below (intE_keeps _) (w' := wr) hb.out (Nat.le_refl _)) hlt
        have hts := filt_succ (p := p) hlt
        have htl := filt_le O p k
        have hnx := Hon.out O[k] (List.getElem_mem hlt)
        have hpx : p O[k] = decide ((at_ f O[k]).kind = 1) := by rw [Hp2.out]
        generalize O[k] = x at *
        obtain ⟨z, rfl, hz⟩ := node_nat hnx
        obtain ⟨bn, on, Aa, ca, Ak, ck, rfl, hbn, n0, _⟩ := node_at (Hrd.out wr (bthen (bthen Hb8.out Hb9.out) hb.out)) hz
        rw [atN hz] at hpx
        have hz0 : (0 : Int) ≤ (z : Int) := by omega
        have hzI : (z : Int) < (f.length : Int) := by omega
        by_cases hx : f[z].kind = 1
        · rw [hx] at n0
          rw [hpx, if_pos (by rw [hx]; rfl)] at hts
          have Hts := Lib.hid hts
          have Hrow := Lib.hid (show wr.ownsRow w9.heap.size 3 1 (.slice Ar ((O.take k).filter p).length cr) (((O.take k).filter p).map (Value.int .i64)).length (((O.take k).filter p).map (Value.int .i64)) from by rw [List.length_map]; exact hrow.out)
          clear hts hpx hx gw
          go_wp2_with (at_builtin; go_loud (refine Mem.pl_append _ w9.heap.size rfl _ _ 53 3 (.int .i64 0) 8 rfl Tryz.underlying53 info_int rfl (.slice Ar ((O.take k).filter p).length cr) (((O.take k).filter p).map (Value.int .i64)) (.int .i64 z) rfl (by simp [Act.eval]) rfl Hrow.out hb.out.size (by rw [List.length_map]; omega) (by rw [List.length_map]; simp [maxLen]; omega) ?_); rintro v7 w17 hown7 hgrow7 ⟨g7, cap7, rfl, hat⟩; have Hown7 := Lib.hid hown7; have Hgrow7 := Lib.hid hgrow7; clear hown7 hgrow7 hat)
          go_roundw
          case rel =>
            refine ⟨k + 1, by omega, by go_num, Lib.hid ?_, Lib.hid (FTops.grown_below hb.out Hgrow7.out Hrow.out (Nat.le_refl _))⟩
            have h9 := Hown7.out
            rw [show ((O.take k).filter p).map (Value.int .i64) ++ [Value.int .i64 z] = ((O.take (k + 1)).filter p).map (Value.int .i64) by rw [Hts.out, List.map_append]; rfl, List.length_map] at h9
            simpa only [List.length_map] using h9
          case measure => simp [intOf]; omega
        · have hkq : (f[z].kind == 1) = false := by rw [beq_eq_false_iff_ne]; exact hx
          rw [hpx, if_neg (by rw [decide_eq_false hx]; decide), List.append_nil] at hts
          have Hts := Lib.hid hts
          clear hts hpx hx gw
          go_wp2_with fail
          go_roundw
          case rel => exact ⟨k + 1, by omega, by go_num, Lib.hid (by rw [Hts.out]; exact hrow.out), hb⟩
          case measure => simp [intOf]; omega
      · obtain rfl : k = O.length := by omega
        have hrow' := hrow.out
        rw [List.take_length] at hrow'
        have hwant : RdL (intE .i64) 1 wr.heap.size wr (.slice Ar (O.filter p).length cr) (O.filter p) := RdL.of_own hrow' rfl (fun g hg => (hrow'.lt g hg).2) (fun i hi => ⟨by
          rw [Nat.mul_one, List.drop_eq_getElem_cons (by simpa using hi)]
          simp, by
          obtain ⟨j, hj, he⟩ := List.mem_iff_getElem.1 (List.mem_filter.1 (List.getElem_mem hi)).1
          obtain ⟨_, _, _, _, _, h9⟩ := intE_at Hr9.out hj
          rw [he] at h9
          exact h9⟩)
        have hup := bthen (bthen Hb8.out Hb9.out) hb.out
        have hst : allS f (tt : Int) starL = O.filter p := by
          rw [star_all Hm.out (tt : Int) (fun x hx => Hon.out x (by rw [HO.out]; exact hx)), ← HO.out, Hp2.out]
        have hrl := fun w' (hb' : Below wr.heap.size wr w') => (Hr8.out.below rowE_keeps (w' := w') (bthen (bthen Hb9.out hb.out) hb') (Nat.le_refl _)).mono rowE_keeps (bthen (bthen Hb9.out hb.out) hb').size
        have hall := All_calls wr _ f (Hrd.out wr hup) Hm.out Hsm.out (tt : Int) Hwt.out v8 starL (hrl wr (Below.refl _ _)) star_sm
        have hnil := fun w' (hb' : Below wr.heap.size wr w') => All_calls w' _ f (Hrd.out w' (bthen hup hb')) Hm.out Hsm.out (tt : Int) Hwt.out (.slice none 0 0) [] RdL.nil (fun r hr => by cases hr)
        rw [hst] at hall
        simp only [none_all] at hnil
        have hint := fun w' u (hb' : Below wr.heap.size wr w') (hu : RdL (intE .i64) 1 w'.heap.size w' u (O.filter p)) => FSame.RefInts_calls w' u _ (O.filter p) (O.filter p) hu (hwant.below (intE_keeps _) (w' := w') hb' (Nat.le_refl _) |>.mono (intE_keeps _) hb'.size)
        simp only [decide_true] at hint
        have Hall := Lib.hid hall; have Hnil := Lib.hid hnil; have Hint := Lib.hid hint; have Hup := Lib.hid (bthen Hb7.out hup)
        clear hall hnil hint hup hwant hrow hrow' hst hrl hlt
        try rw [List.take_length]
        go_wp2_with (first | (go_at_call 37; first | ((with_reducible refine (Hall.out).mono ?_); rintro e w20 ⟨u20, rfl, hu20, hb20⟩; have Hu20 := Lib.hid hu20; have Hb20 := Lib.hid hb20; clear hu20 hb20) | ((with_reducible refine (Hnil.out _ Hb21.out).mono ?_); rintro e w22 ⟨u22, rfl, hu22, hb22⟩; obtain ⟨A22, c22, rfl, _, _, _⟩ := id hu22; have Hb22 := Lib.hid (bthen Hb21.out hb22); clear hu22 hb22)) | (go_at_call 41; (with_reducible refine (Hint.out _ _ Hb20.out Hu20.out).mono ?_); rintro e w21 ⟨rfl, hb21⟩; have Hb21 := Lib.hid (bthen Hb20.out hb21); clear hb21))
        go_ret
        exact ⟨rfl, bthen Hup.out Hb22.out⟩
end Go.Proofs.YthdenkkllpkplaaGreat.LStar
end
section
/- The law FindStar answers true at every input, and each argument reads afterwards as it read before; no condition. -/
namespace Go.Proofs.YthdenkkllpkplaaGreat.findStar
open Go.ChangeShapes Go.WideShapes Go.ChangeAt Go.RowKit
open Go.ChangeMaps (open_string shut_string)
set_option linter.unusedVariables false
theorem own : ownKnob Tryz.prog.godebug = none := by kernel_rfl
theorem laidOut : laidOutB Tryz.prog = true := by kernel_rfl
set_option maxRecDepth 100000 in
theorem lifted (os : Os) (started : os.Started) (H : Type) (enc : TypeId × Value → H) :
    ReturnsInHanded {} Tryz.checked os 15 .any (Rows.findStarSpec.pre6 enc Tryz.prog Tryz.f15 Rows.findStarRow.domain false) (Rows.findStarSpec.post enc Tryz.prog Tryz.f15 false true false false) := by
  refine returnsInHanded_of_change_sized (C := Tryz.checked) own started (by kernel_rfl) Tryz.func15
    (ChangeSpec.witness6 (enc := enc) (C := Tryz.checked) false ⟨#[], #[.slice none 0 0, .int .u8 0], []⟩ 8 (by kernel_rfl) (by kernel_rfl) (by kernel_rfl) (by kernel_rfl)) ?_
  intro W base args ds gs before hval0 hW hcnd hsz0 _
  have hsz : (DataW.weightsEach Tryz.prog (Tryz.f15.params.toList ++ Rows.findStarSpec.plain.varTypes Tryz.prog) (ds ++ gs)).all (· ≤ reachBytes) = true := hsz0
  have hval : ∀ (j : Nat) t v, Tryz.f15.params[j]? = some t → args[j]? = some v → Value.okWide Tryz.prog W .any base t v := hval0
  have hW' := hW
  obtain ⟨p, q, hA0, hV, rfl, hfz, hnd⟩ := hW
  have hA : DataW.TrodAll enc Tryz.prog W 0 (fun _ => true) true Tryz.f15.params.toList args.toList ds p := hA0
  rw [Tryz.params15] at hA hval hsz
  obtain ⟨v0, vs0, d0, ds0, p0, q0, hargs, rfl, rfl, h0, r0⟩ := trodAll_cons hA
  obtain ⟨v1, vs1, d1, ds1, p1, q1, rfl, rfl, rfl, h1, r1⟩ := trodAll_cons r0
  obtain ⟨rfl, rfl, rfl⟩ := trodAll_nil r1
  obtain rfl : args = #[v0, v1] := by cases args; simp_all
  obtain ⟨rfl, rfl⟩ := trodVars_none hV
  have k0 := h0
  have lt0 : ∀ x ∈ p0, x.block < W.heap.size := by obtain ⟨m, hm⟩ := k0; exact DataW.trod_lt m _ _ _ hm
  obtain ⟨l0, x0⟩ := Rd.open_list 6 Tryz.underlying22 (by kernel_rfl) (by decide) Shapes.opens_op_Op (hval 0 22 v0 rfl rfl) h0
  obtain ⟨a1, rfl, rfl, rfl, w1⟩ := open_int Tryz.underlying5 (hval 1 5 v1 rfl rfl) h1
  clear hA0 hval0 hsz0 hsz
  refine (LStar.law_calls W l0 v0 x0 a1 w1).mono fun e W' ⟨he, bel⟩ => ?_
  subst he
  exact ⟨_, rfl, _, _, _, [], _, [], hW', trodAll_mk1 (shut_bool Tryz.underlying4 _), (trodAll_cons_mk (Below.trod laidOut (by kernel_rfl) (of_decide_eq_true (by kernel_rfl)) k0 bel lt0) (trodAll_cons_mk (shut_int Tryz.underlying5 w1) trodAll_mk0)), rfl, bel.frame _, fun h => by cases h⟩
set_option maxHeartbeats 20000000 in
theorem closed : joinedFacts Tryz.pinned.checked.prog 15 Tryz.f15 Rows.findStarSpec Rows.findStarRow = true := by
  unfold joinedFacts
  repeat' (with_reducible refine Bool.and_eq_true_iff.2 ⟨?_, ?_⟩)
  all_goals as_aux_lemma => kernel_rfl
theorem over : Rows.findStarRow.holds Tryz.pinned (OpenSpec.ofChange Rows.findStarSpec) :=
  OpenClaim.holds_of_wide 15 Tryz.f15 rfl rfl rfl rfl rfl rfl rfl ⟨rfl, rfl, rfl, rfl, rfl⟩ rfl rfl rfl rfl rfl (by kernel_rfl) Tryz.func15 closed
    (of_decide_eq_true (by kernel_rfl)) (by unfold Func.isWrapper; first | (rw [if_pos (by decide +kernel)]; kernel_rfl) | (rw [if_neg (by decide +kernel)]; exact ⟨rfl, rfl⟩))
    (fun os started H enc _ => lifted os started H enc)
theorem proved : Rows.FindStarSaid := over
end Go.Proofs.YthdenkkllpkplaaGreat.findStar
namespace Go.Proofs.YthdenkkllpkplaaGreat
/-- The row, under a short name, for the claim. -/
theorem findStar_holds : Rows.FindStarSaid := findStar.proved
#print axioms findStar_holds
end Go.Proofs.YthdenkkllpkplaaGreat
end
