/- The law ApplyUnknown answers true at every input, and each argument reads afterwards as it read before; no condition. -/
import Derived.Test.YthdenkkllpkplaaGreatRows
import Derived.WalkKit
import Derived.ProofKit
import Derived.OpenShut
import Derived.ShutString
import Derived.ChangeOld
import Derived.Below
import Derived.SizedLaws
import Derived.Test.YthdenkkllpkplaaGreatC15
import Derived.Test.YthdenkkllpkplaaGreatC16
section
/- ApplyUnknown. -/
namespace Go.Proofs.YthdenkkllpkplaaGreat.LUnkn
open Go Go.RowKit Go.Proofs.YthdenkkllpkplaaGreat.Seq Go.Proofs.YthdenkkllpkplaaGreat.WS Go.Proofs.YthdenkkllpkplaaGreat.FS Go.Proofs.YthdenkkllpkplaaGreat.Mem Go.Proofs.YthdenkkllpkplaaGreat.Rd Go.Proofs.YthdenkkllpkplaaGreat.Shapes Go.Proofs.YthdenkkllpkplaaGreat.Word Go.Proofs.YthdenkkllpkplaaGreat.FFam Go.Proofs.YthdenkkllpkplaaGreat.Grown Go.Proofs.YthdenkkllpkplaaGreat.Ap Go.Proofs.YthdenkkllpkplaaGreat.OwnF
set_option linter.unusedVariables false
set_option linter.unusedSimpArgs false

theorem u8_nat {a : Int} (h : (Lit.int .u8 a).wf = true) : ∃ n : Nat, a = n ∧ n ≤ 255 := by
  simp only [Lit.wf, Bool.and_eq_true, decide_eq_true_eq] at h
  have h0 : (0 : Int) ≤ a := h.1
  have h1 : a ≤ 255 := h.2
  exact ⟨a.toNat, by omega, by omega⟩
theorem New_lo (L : Nat) (w : World) (hL : L ≤ w.heap.size) : Calls Tryz.prog 20 #[] w fun e w' => ∃ v, e = .returned v ∧ LoF L w' v newFo ∧ Below w.heap.size w w' := by
  go_enter Tryz.func20, Tryz.ntmps20
  go_wp2_with fail
  go_ret
  refine ⟨_, rfl, ?_, (Below.refl _ _).alloc (Nat.le_refl _) _⟩
  have h0 := World.ownsRow_lit (base := w.heap.size) (e := 55) (size := 6) w #[.int .i64 0, .string ⟨#[]⟩, .string ⟨#[]⟩, .slice none 0 0, .int .i64 (-1), .slice none 0 0] 1 (Nat.le_refl _) (by simp [maxLen]) rfl
  refine ⟨RdL.of_own (l := newFo) h0 rfl (fun g hg => (h0.lt g hg).2) (fun i hi => ?_), fun b o n c e => ?_⟩
  · have : i = 0 := by have : i < 1 := hi; omega
    subst this
    exact ⟨.slice none 0 0, .slice none 0 0, rfl, RdS.nil, RdS.nil, show (0 : Nat) ≤ maxLen by decide, show (0 : Nat) ≤ maxLen by decide, show (Lit.int .i64 0).wf = true by decide, show (Lit.int .i64 (-1)).wf = true by decide⟩
  · injection e with e
    injection e with e
    injection e with e
    omega
set_option maxRecDepth 100000 in
set_option maxHeartbeats 8000000 in
theorem law_calls (w : World) (l : List Opn) (v : Value) (h : RdO w.heap.size w v l) (o : Opn) (ho : OkO o) (r : Int) (hr8 : (Lit.int .u8 r).wf = true) :
    Calls Tryz.prog 3 #[v, opV o, .int .u8 r] w fun e w' => e = .returned (.bool true) ∧ Below w.heap.size w w' := by
  obtain ⟨far, rfl, hfar⟩ := u8_nat hr8
  clear hr8
  obtain ⟨W0, hW0⟩ : ∃ W0, w.alloc (.cells #[.int .i64 o.kind, .int .i64 o.id, .int .i64 o.to, .int .i64 o.at_, .string o.name, .string o.text] 24) = W0 := ⟨_, rfl⟩
  have hrow : W0.heap[w.heap.size]? = some (.cells (OpMay.opRow o) 24 (0, 0)) := by rw [← hW0]; exact World.alloc_heap_new w _
  have hb0 : Below w.heap.size w W0 := by rw [← hW0]; exact (Below.refl _ _).alloc (Nat.le_refl _) _
  have hs0 : W0.heap.size = w.heap.size + 1 := by rw [← hW0]; simp
  have hbox := fun w' (hb : Below W0.heap.size W0 w') => (hb.block w.heap.size (lt_heap hrow)).trans hrow
  have hrd := fun w' (hb : Below W0.heap.size W0 w') => (h.below opE_keeps (w' := w') (bthen hb0 hb) (Nat.le_refl _)).mono opE_keeps (bthen hb0 hb).size
  have hbn := bounded_calls W0 v l (hrd W0 (Below.refl _ _))
  have hb1 : Below W0.heap.size W0 (W0.alloc (.cells #[.int .i64 o.kind, .int .i64 o.id, .int .i64 o.to, .int .i64 o.at_, .string o.name, .string o.text] 24)) := (Below.refl _ _).alloc (Nat.le_refl _) _
  have hbo := bounded_calls (W0.alloc (.cells #[.int .i64 o.kind, .int .i64 o.id, .int .i64 o.to, .int .i64 o.at_, .string o.name, .string o.text] 24)) _ [o] (rd1 _ W0.heap.size o ho (World.alloc_heap_new _ _))
  obtain ⟨A0, c0, rfl, hl0, hc0, _⟩ := h.form
  simp only [maxLen] at hc0
  obtain ⟨z0, z1, z2, z3, z4, z5, zf⟩ := OpMay.op_cells (hbox W0 (Below.refl _ _))
  have HW0 := Lib.hid hW0; have HB0 := Lib.hid hb0; have Hbox := Lib.hid hbox; have Hrd := Lib.hid hrd; have HB1 := Lib.hid hb1; have Ho := Lib.hid ho; have Hs0 := Lib.hid hs0
  clear hW0 hb0 hbox hrd h hrow hb1 ho hs0
  cases hB : bndO l with
  | false =>
    rw [hB] at hbn
    have Hbn := Lib.hid hbn
    clear hbn hbo hB
    go_enter Tryz.func3, Tryz.ntmps3
    go_upto_region 1 with (fail)
    rw [HW0.out]
    go_wp2_with (first | (go_at_call 18; (with_reducible refine (Hbn.out).mono ?_); rintro e w5 ⟨rfl, rfl⟩; clear Hbn) | (go_at_call 19; (with_reducible refine (shown_calls _).mono ?_); rintro e w6 ⟨rfl, hb6⟩; have Hb6 := Lib.hid hb6; clear hb6))
    go_ret
    exact ⟨rfl, bthen HB0.out Hb6.out⟩
  | true =>
    cases hB2 : bndO [o] with
    | false =>
      rw [hB] at hbn
      rw [hB2] at hbo
      have Hbn := Lib.hid hbn; have Hbo := Lib.hid hbo
      clear hbn hbo hB hB2
      go_enter Tryz.func3, Tryz.ntmps3
      go_upto_region 1 with (fail)
      rw [HW0.out]
      go_wp2_with (first | (go_at_call 18; (with_reducible refine (Hbn.out).mono ?_); rintro e w5 ⟨rfl, rfl⟩; clear Hbn) | (go_at_call 18; (with_reducible refine (Hbo.out).mono ?_); rintro e w5 ⟨rfl, rfl⟩; clear Hbo) | (go_at_call 19; (with_reducible refine (shown_calls _).mono ?_); rintro e w6 ⟨rfl, hb6⟩; have Hb6 := Lib.hid (bthen HB1.out hb6); clear hb6))
      go_ret
      exact ⟨rfl, bthen HB0.out Hb6.out⟩
    | true =>
      rw [hB] at hbn
      rw [hB2] at hbo
      have Hbn := Lib.hid hbn; have Hbo := Lib.hid hbo
      clear hbn hbo hB hB2
      go_enter Tryz.func3, Tryz.ntmps3
      go_upto_region 1 with (fail)
      rw [HW0.out]
      go_upto_region 4 with (first | (go_at_call 18; (with_reducible refine (Hbn.out).mono ?_); rintro e w5 ⟨rfl, rfl⟩; clear Hbn) | (go_at_call 18; (with_reducible refine (Hbo.out).mono ?_); rintro e w5 ⟨rfl, rfl⟩; clear Hbo) | (go_at_call 19; (with_reducible refine (shown_calls _).mono ?_); rintro e w6 ⟨rfl, hb6⟩; have Hb6 := Lib.hid (bthen HB1.out hb6); clear hb6) | (go_at_call 20; (with_reducible refine (New_lo W0.heap.size _ Hb6.out.size).mono ?_); rintro e w7 ⟨v7, rfl, hr7, hb7⟩; have Hr7 := Lib.hid hr7; have Hb7 := Lib.hid (bthen Hb6.out hb7); clear hr7 hb7))
      clear z0 z1 z2 z3 z4 z5 zf
      go_wp2_with fail
      go_loopw [7, 8] (fun v i wr => ∃ k : Nat, k ≤ l.length ∧ i = .int .i64 k ∧ LoF W0.heap.size wr v (growF (l.take k)) ∧ Below W0.heap.size W0 wr) (fun _ i _ => l.length - (intOf i).toNat)
      case atStart => exact ⟨0, Nat.zero_le _, rfl, Hr7.out, Hb7.out⟩
      case round =>
        obtain ⟨k, hk, rfl, hr, hb⟩ := hrel
        have hmg := grow_may (l.take k)
        by_cases hlt : k < l.length
        · obtain ⟨b, o1, rfl, hbl, g0, g1, g2, g3, g4, g5, m1, m2, m3, m4⟩ := op_at (Hrd.out _ hb) hlt
          have hone := @Doings.one_lo ⟨W0.heap.size⟩ wr _ _ l[k] hr hb.size hmg m1 m2 m3 m4
          have hs : growF (l.take (k + 1)) = oneF (growF (l.take k)) l[k] := by rw [List.take_succ_eq_append_getElem hlt, grow_snoc]
          obtain ⟨A3, c3, rfl, _, _, _⟩ := hr.rd.form
          have Hone := Lib.hid hone; have Hs := Lib.hid hs; have Hb := Lib.hid hb
          clear hone hs hb hr hmg m1 m2 m3 m4
          generalize l[k] = x at *
          go_wp2_with (go_at_call 21; ((with_reducible refine (Hone.out).mono ?_); rintro e w8 ⟨v8, rfl, hr8, hb8⟩; have Hr8 := Lib.hid hr8; have Hb8 := Lib.hid hb8; clear hr8 hb8))
          go_roundw
          case rel => exact ⟨k + 1, by omega, by go_num, by rw [Hs.out]; exact Hr8.out, bthen Hb.out Hb8.out⟩
          case measure => simp [intOf]; omega
        · have hl : growF (l.take k) = growF l := by rw [List.take_of_length_le (by omega)]
          rw [hl] at hr hmg
          obtain ⟨f, hf⟩ : ∃ f, f = growF l := ⟨_, rfl⟩
          rw [← hf] at hr hmg
          obtain rfl : k = l.length := by omega
          have hlen := may_len hmg
          obtain ⟨A7, c7, rfl, hl7, hc7, hr7⟩ := hr.rd.form
          simp only [maxLen] at hc7
          obtain ⟨b7, o7, _, rfl, hb7lt, _⟩ := hr7.at_ (i := 0) (by omega)
          have Hm := Lib.hid hmg; have HR := Lib.hid hr; have Hb := Lib.hid hb
          clear hl hf hmg hr hr7 hb hlt hk hb7lt Hrd Hr7 Hb7
          have hrow := Hbox.out wr Hb.out
          obtain ⟨z0, z1, z2, z3, z4, z5, zf⟩ := OpMay.op_cells hrow
          have hw1 : IntKind.i64.wrap ((f.length : Int) + (far : Int)) = (f.length : Int) + (far : Int) := by rw [IntKind.wrap_i64]; omega
          obtain ⟨o', ho'⟩ : ∃ o' : Opn, o' = { o with id := (f.length : Int) + (far : Int) } := ⟨_, rfl⟩
          go_upto_region 9 with fail
          obtain ⟨W9, hW9⟩ : ∃ W9, wr.setCell ⟨w.heap.size, 1, none⟩ (.int .i64 ((f.length : Int) + (far : Int))) = W9 := ⟨_, rfl⟩
          rw [hW9]
          have hrow9 : W9.heap[w.heap.size]? = some (.cells (OpMay.opRow o') 24 (0, 0)) := by
            rw [← hW9, ho']
            exact (Repl.setCell_row hrow).trans rfl
          have hlo := HR.out.keep (w' := W9) (fun b hb _ => by rw [← hW9]; exact Below.heap_setCell _ _ _ _ (show b ≠ w.heap.size by have := Hs0.out; omega)) (by rw [← hW9]; simp [World.setCell])
          have hb9 : Below w.heap.size w W9 := by rw [← hW9]; exact (bthen HB0.out Hb.out).setCell (Nat.le_refl _) _
          have hcell := fun w' (hb : Below W9.heap.size W9 w') => OpMay.op_cells ((hb.block w.heap.size (lt_heap hrow9)).trans hrow9)
          have hone := Doings.one_calls W9 _ f o' hlo.rd Hm.out (by rw [ho']; exact Ho.out.1) (by rw [ho']; exact Ho.out.2.1) (by rw [ho']; exact FTops.wf_i64 (by show -9223372036854775808 ≤ (f.length : Int) + (far : Int); omega) (by show (f.length : Int) + (far : Int) ≤ 9223372036854775807; omega)) (by rw [ho']; exact Ho.out.2.2.2.2.1)
          unfold Doings.OnePost at hone
          have hmay := fun w' => OpMay.opMay_calls o' w'
          unfold OpMay.OpMayPost at hmay
          have hno : isNode f o'.id = false := by
            rw [Bool.eq_false_iff]
            intro hh
            rw [node_iff, ho'] at hh
            have : (f.length : Int) + (far : Int) < (f.length : Int) := hh.2
            omega
          have hid : o'.id = (f.length : Int) + (far : Int) := by rw [ho']
          have hres := fun (hm : mayO o' = false) => one_arg (f := f) hm
          have hres2 := fun (hm : mayO o' = true) hk => one_unknown (f := f) hm hk hno
          obtain ⟨z0, z1, z2, z3, z4, z5, zf⟩ := hcell W9 (Below.refl _ _)
          have Hone := Lib.hid hone; have Hmay := Lib.hid hmay; have Hcell := Lib.hid hcell; have Hb9 := Lib.hid hb9; have Hres := Lib.hid hres; have Hres2 := Lib.hid hres2
          clear hone hmay hcell hb9 hres hres2 hno hid hlo hrow9 hW9 hrow hw1 ho'
          go_upto_region 10 with (go_at_call 21; ((with_reducible refine (Hone.out).mono ?_); rintro e w10 ⟨v10, rfl, hr10, hb10⟩; have Hb10 := Lib.hid hb10; clear hr10 hb10))
          clear z0 z1 z2 z3 z4 z5 zf
          obtain ⟨z0, z1, z2, z3, z4, z5, zf⟩ := Hcell.out w10 Hb10.out
          have hmy := Hmay.out w10
          generalize oneE f o' = E at *
          cases hm : mayO o' with
          | false =>
            rw [hm] at hmy
            obtain rfl := Hres.out hm
            have Hmy := Lib.hid hmy
            clear hmy hm Hres Hres2
            go_wp2_with (go_at_call 22; ((with_reducible refine (Hmy.out).mono ?_); rintro e w11 ⟨rfl, hb11⟩; have Hb11 := Lib.hid hb11; clear hb11))
            go_ret
            exact ⟨rfl, bthen Hb9.out (bthen Hb10.out Hb11.out)⟩
          | true =>
            rw [hm] at hmy
            have Hmy := Lib.hid hmy
            have hcell2 := Hcell.out
            by_cases h4 : 4 ≤ o'.kind
            · obtain rfl := Hres2.out hm h4
              clear hmy hm Hres Hres2
              go_wp2_with (go_at_call 22; ((with_reducible refine (Hmy.out).mono ?_); rintro e w11 ⟨rfl, hb11⟩; have y0 := (hcell2 w11 (bthen Hb10.out hb11)).1; have Hb11 := Lib.hid hb11; clear hb11))
              go_ret
              exact ⟨rfl, bthen Hb9.out (bthen Hb10.out Hb11.out)⟩
            · have h4' : o'.kind < 4 := by omega
              clear hmy hm Hres Hres2
              go_wp2_with (go_at_call 22; ((with_reducible refine (Hmy.out).mono ?_); rintro e w11 ⟨rfl, hb11⟩; have y0 := (hcell2 w11 (bthen Hb10.out hb11)).1; have Hb11 := Lib.hid hb11; clear hb11))
              go_ret
              exact ⟨rfl, bthen Hb9.out (bthen Hb10.out Hb11.out)⟩
end Go.Proofs.YthdenkkllpkplaaGreat.LUnkn
end
section
/- The law ApplyUnknown answers true at every input, and each argument reads afterwards as it read before; no condition. -/
namespace Go.Proofs.YthdenkkllpkplaaGreat.applyUnknown
open Go.ChangeShapes Go.WideShapes Go.ChangeAt Go.RowKit
open Go.ChangeMaps (open_string shut_string)
set_option linter.unusedVariables false
theorem own : ownKnob Tryz.prog.godebug = none := by kernel_rfl
theorem laidOut : laidOutB Tryz.prog = true := by kernel_rfl
set_option maxRecDepth 100000 in
theorem lifted (os : Os) (started : os.Started) (H : Type) (enc : TypeId × Value → H) :
    ReturnsInHanded {} Tryz.checked os 3 .any (Rows.applyUnknownSpec.pre6 enc Tryz.prog Tryz.f3 Rows.applyUnknownRow.domain false) (Rows.applyUnknownSpec.post enc Tryz.prog Tryz.f3 false true false false) := by
  refine returnsInHanded_of_change_sized (C := Tryz.checked) own started (by kernel_rfl) Tryz.func3
    (ChangeSpec.witness6 (enc := enc) (C := Tryz.checked) false ⟨#[], #[.slice none 0 0, .agg #[.int .i64 0, .int .i64 0, .int .i64 0, .int .i64 0, .string ByteArray.empty, .string ByteArray.empty], .int .u8 0], []⟩ 8 (by kernel_rfl) (by kernel_rfl) (by kernel_rfl) (by kernel_rfl)) ?_
  intro W base args ds gs before hval0 hW hcnd hsz0 _
  have hsz : (DataW.weightsEach Tryz.prog (Tryz.f3.params.toList ++ Rows.applyUnknownSpec.plain.varTypes Tryz.prog) (ds ++ gs)).all (· ≤ reachBytes) = true := hsz0
  have hval : ∀ (j : Nat) t v, Tryz.f3.params[j]? = some t → args[j]? = some v → Value.okWide Tryz.prog W .any base t v := hval0
  have hW' := hW
  obtain ⟨p, q, hA0, hV, rfl, hfz, hnd⟩ := hW
  have hA : DataW.TrodAll enc Tryz.prog W 0 (fun _ => true) true Tryz.f3.params.toList args.toList ds p := hA0
  rw [Tryz.params3] at hA hval hsz
  obtain ⟨v0, vs0, d0, ds0, p0, q0, hargs, rfl, rfl, h0, r0⟩ := trodAll_cons hA
  obtain ⟨v1, vs1, d1, ds1, p1, q1, rfl, rfl, rfl, h1, r1⟩ := trodAll_cons r0
  obtain ⟨v2, vs2, d2, ds2, p2, q2, rfl, rfl, rfl, h2, r2⟩ := trodAll_cons r1
  obtain ⟨rfl, rfl, rfl⟩ := trodAll_nil r2
  obtain rfl : args = #[v0, v1, v2] := by cases args; simp_all
  obtain ⟨rfl, rfl⟩ := trodVars_none hV
  have k0 := h0
  have lt0 : ∀ x ∈ p0, x.block < W.heap.size := by obtain ⟨m, hm⟩ := k0; exact DataW.trod_lt m _ _ _ hm
  obtain ⟨l0, x0⟩ := Rd.open_list 6 Tryz.underlying22 (by kernel_rfl) (by decide) Shapes.opens_op_Op (hval 0 22 v0 rfl rfl) h0
  have k1 := h1
  have lt1 : ∀ x ∈ p1, x.block < W.heap.size := by obtain ⟨m, hm⟩ := k1; exact DataW.trod_lt m _ _ _ hm
  obtain ⟨l1, rfl, x1⟩ := Shapes.open_op Tryz.underlying24 Shapes.opens_op_Op (hval 1 24 v1 rfl rfl) h1
  obtain ⟨a2, rfl, rfl, rfl, w2⟩ := open_int Tryz.underlying5 (hval 2 5 v2 rfl rfl) h2
  clear hA0 hval0 hsz0 hsz
  refine (LUnkn.law_calls W l0 v0 x0 l1 x1 a2 w2).mono fun e W' ⟨he, bel⟩ => ?_
  subst he
  exact ⟨_, rfl, _, _, _, [], _, [], hW', trodAll_mk1 (shut_bool Tryz.underlying4 _), (trodAll_cons_mk (Below.trod laidOut (by kernel_rfl) (of_decide_eq_true (by kernel_rfl)) k0 bel lt0) (trodAll_cons_mk (Below.trod laidOut (by kernel_rfl) (of_decide_eq_true (by kernel_rfl)) k1 bel lt1) (trodAll_cons_mk (shut_int Tryz.underlying5 w2) trodAll_mk0))), rfl, bel.frame _, fun h => by cases h⟩
set_option maxHeartbeats 20000000 in
theorem closed : joinedFacts Tryz.pinned.checked.prog 3 Tryz.f3 Rows.applyUnknownSpec Rows.applyUnknownRow = true := by
  unfold joinedFacts
  repeat' (with_reducible refine Bool.and_eq_true_iff.2 ⟨?_, ?_⟩)
  all_goals as_aux_lemma => kernel_rfl
theorem over : Rows.applyUnknownRow.holds Tryz.pinned (OpenSpec.ofChange Rows.applyUnknownSpec) :=
  OpenClaim.holds_of_wide 3 Tryz.f3 rfl rfl rfl rfl rfl rfl rfl ⟨rfl, rfl, rfl, rfl, rfl⟩ rfl rfl rfl rfl rfl (by kernel_rfl) Tryz.func3 closed
    (of_decide_eq_true (by kernel_rfl)) (by unfold Func.isWrapper; first | (rw [if_pos (by decide +kernel)]; kernel_rfl) | (rw [if_neg (by decide +kernel)]; exact ⟨rfl, rfl⟩))
    (fun os started H enc _ => lifted os started H enc)
theorem proved : Rows.ApplyUnknownSaid := over
end Go.Proofs.YthdenkkllpkplaaGreat.applyUnknown
namespace Go.Proofs.YthdenkkllpkplaaGreat
/-- The row, under a short name, for the claim. -/
theorem applyUnknown_holds : Rows.ApplyUnknownSaid := applyUnknown.proved
#print axioms applyUnknown_holds
end Go.Proofs.YthdenkkllpkplaaGreat
end
