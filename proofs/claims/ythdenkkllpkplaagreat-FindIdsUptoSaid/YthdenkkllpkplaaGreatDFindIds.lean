/- The law FindIds answers true at every input, and each argument reads afterwards as it read before; no condition. -/
import Derived.Test.YthdenkkllpkplaaGreatRows
import Derived.WalkKit
import Derived.ProofKit
import Derived.OpenShut
import Derived.ShutString
import Derived.ChangeOld
import Derived.Below
import Derived.SizedLaws
import Derived.Test.YthdenkkllpkplaaGreatC22
import Derived.Test.YthdenkkllpkplaaGreatC23
section
/- treillagelaw10.FindIds. -/
namespace Go.Proofs.YthdenkkllpkplaaGreat.LIds
open Go Go.RowKit Go.Proofs.YthdenkkllpkplaaGreat.Seq Go.Proofs.YthdenkkllpkplaaGreat.WS Go.Proofs.YthdenkkllpkplaaGreat.FS Go.Proofs.YthdenkkllpkplaaGreat.Mem Go.Proofs.YthdenkkllpkplaaGreat.Rd Go.Proofs.YthdenkkllpkplaaGreat.Shapes Go.Proofs.YthdenkkllpkplaaGreat.Word Go.Proofs.YthdenkkllpkplaaGreat.FFam Go.Proofs.YthdenkkllpkplaaGreat.Grown Go.Proofs.YthdenkkllpkplaaGreat.Fn Go.Proofs.YthdenkkllpkplaaGreat.Pa Go.Proofs.YthdenkkllpkplaaGreat.Fi
set_option linter.unusedVariables false
set_option linter.unusedSimpArgs false
theorem row_at0 {B : Nat} {w : World} {A : Option Addr} {n c : Nat} {l : Sel} (h : RdSel B w (.slice A n c) l) (hi : 0 < l.length) :
    ∃ (b o : Nat) (At : Option Addr) (ct : Nat), A = some ⟨b, o, none⟩ ∧ b < B ∧ w.cell? ⟨b, o, none⟩ = some (.slice At l[0].length ct) ∧ RdL stepE 2 B w (.slice At l[0].length ct) l[0] ∧ l[0].length ≤ ct ∧ ct ≤ maxLen := row_at h hi
theorem step_at0 {B : Nat} {w : World} {A : Option Addr} {n c : Nat} {l : Sro} (h : RdL stepE 2 B w (.slice A n c) l) (hi : 0 < l.length) :
    ∃ (b o : Nat) (At : Option Addr) (ct : Nat), A = some ⟨b, o, none⟩ ∧ b < B ∧ w.cell? ⟨b, o, none⟩ = some (.slice At l[0].c.length ct) ∧ RdL testE 3 B w (.slice At l[0].c.length ct) l[0].c ∧ l[0].c.length ≤ ct ∧ ct ≤ maxLen := by
  obtain ⟨b, o, At, ct, h1, h2, h3, _, h5, h6⟩ := step_at h hi
  exact ⟨b, o, At, ct, h1, h2, by simpa using h3, h5, h6⟩
set_option maxRecDepth 100000 in
set_option maxHeartbeats 8000000 in
theorem law_calls (w : World) (l : List Opn) (v : Value) (h : RdO w.heap.size w v l) (name : ByteArray) (hn : name.size ≤ 1048575) :
    Calls Tryz.prog 17 #[v, .string name] w fun e w' => e = .returned (.bool true) ∧ Below w.heap.size w w' := by
  obtain ⟨s, hs⟩ : ∃ s, s = (⟨#[35]⟩ : ByteArray) ++ name := ⟨_, rfl⟩
  have hsz : s.size = name.size + 1 := by rw [hs, ByteArray.size_append]; show 1 + name.size = _; omega
  have h35 : nextB s 0 = 35 := by
    rw [next_yes (by omega)]
    subst hs
    rw [ByteArray.getElem_append_left (by decide)]
    rfl
  have hpa := parse_calls s (by omega) w
  unfold ParseQ at hpa
  have hO := fun w' (hb : Below w.heap.size w w') => (h.below opE_keeps (w' := w') hb (Nat.le_refl _)).mono opE_keeps hb.size
  have hbn := fun w' (hb : Below w.heap.size w w') => Fi.bounded_calls w' v l (hO w' hb)
  have hgr := fun w' (hb : Below w.heap.size w w') => Fi.grown_calls w' v l (hO w' hb)
  unfold Fi.GrownPost at hgr
  obtain ⟨A0, c0, rfl, hl0, hc0, _⟩ := h.form
  simp only [maxLen] at hc0
  have Hs := Lib.hid hs; have Hsz := Lib.hid hsz; have H35 := Lib.hid h35; have Hgr := Lib.hid hgr
  clear hs hsz h35 hgr hO h
  cases hB : bndO l with
  | false =>
    simp only [hB] at hbn
    cases hp : parseP s with
    | error b =>
      rw [hp] at hpa
      have Hpa := Lib.hid hpa
      clear hpa hp
      go_enter Tryz.func17, Tryz.ntmps17
      go_upto_region 2 with (go_at_call 47; rw [← Hs.out]; (with_reducible refine (Hpa.out).mono ?_); rintro e w8 ⟨hb8, rfl⟩; have Hb8 := Lib.hid hb8; clear hb8)
      have hbn8 := hbn w8 Hb8.out
      have Hbn := Lib.hid hbn8
      clear hbn hbn8
      go_wp2_with (first | (go_at_call 32; (with_reducible refine (Hbn.out).mono ?_); rintro e w5 ⟨rfl, rfl⟩) | (go_at_call 34; (with_reducible refine (Fi.shown_calls _).mono ?_); rintro e w6 ⟨rfl, hb6⟩; have Hb6 := Lib.hid hb6; clear hb6))
      go_ret
      exact ⟨rfl, bthen Hb8.out Hb6.out⟩
    | ok l2 =>
      rw [hp] at hpa
      have Hpa := Lib.hid hpa; have Hp := Lib.hid hp
      clear hpa hp
      go_enter Tryz.func17, Tryz.ntmps17
      go_upto_region 2 with (go_at_call 47; rw [← Hs.out]; (with_reducible refine (Hpa.out).mono ?_); rintro e w8 ⟨hb8, v8, rfl, hr8⟩; have Hb8 := Lib.hid hb8; have Hr8 := Lib.hid (sel_of hr8); clear hb8 hr8)
      have hbn8 := hbn w8 Hb8.out
      have Hbn := Lib.hid hbn8
      clear hbn hbn8
      obtain ⟨A8, c8, rfl, hl8, hc8, hr8⟩ := Hr8.out.form
      simp only [maxLen] at hc8
      go_wp2_with (first | (go_at_call 32; (with_reducible refine (Hbn.out).mono ?_); rintro e w5 ⟨rfl, rfl⟩) | (go_at_call 34; (with_reducible refine (Fi.shown_calls _).mono ?_); rintro e w6 ⟨rfl, hb6⟩; have Hb6 := Lib.hid hb6; clear hb6))
      go_ret
      exact ⟨rfl, bthen Hb8.out Hb6.out⟩
  | true =>
    simp only [hB] at hbn
    by_cases hn1 : 100 < name.size
    · have hn2 : 100 < (name.size : Int) := by omega
      cases hp : parseP s with
      | error b =>
        rw [hp] at hpa
        have Hpa := Lib.hid hpa
        clear hpa hp
        go_enter Tryz.func17, Tryz.ntmps17
        go_upto_region 2 with (go_at_call 47; rw [← Hs.out]; (with_reducible refine (Hpa.out).mono ?_); rintro e w8 ⟨hb8, rfl⟩; have Hb8 := Lib.hid hb8; clear hb8)
        have hbn8 := hbn w8 Hb8.out
        have Hbn := Lib.hid hbn8
        clear hbn hbn8
        go_wp2_with (first | (go_at_call 32; (with_reducible refine (Hbn.out).mono ?_); rintro e w5 ⟨rfl, rfl⟩) | (go_at_call 34; (with_reducible refine (Fi.shown_calls _).mono ?_); rintro e w6 ⟨rfl, hb6⟩; have Hb6 := Lib.hid hb6; clear hb6))
        go_ret
        exact ⟨rfl, bthen Hb8.out Hb6.out⟩
      | ok l2 =>
        rw [hp] at hpa
        have Hpa := Lib.hid hpa; have Hp := Lib.hid hp
        clear hpa hp
        go_enter Tryz.func17, Tryz.ntmps17
        go_upto_region 2 with (go_at_call 47; rw [← Hs.out]; (with_reducible refine (Hpa.out).mono ?_); rintro e w8 ⟨hb8, v8, rfl, hr8⟩; have Hb8 := Lib.hid hb8; have Hr8 := Lib.hid (sel_of hr8); clear hb8 hr8)
        have hbn8 := hbn w8 Hb8.out
        have Hbn := Lib.hid hbn8
        clear hbn hbn8
        obtain ⟨A8, c8, rfl, hl8, hc8, hr8⟩ := Hr8.out.form
        simp only [maxLen] at hc8
        go_wp2_with (first | (go_at_call 32; (with_reducible refine (Hbn.out).mono ?_); rintro e w5 ⟨rfl, rfl⟩) | (go_at_call 34; (with_reducible refine (Fi.shown_calls _).mono ?_); rintro e w6 ⟨rfl, hb6⟩; have Hb6 := Lib.hid hb6; clear hb6))
        go_ret
        exact ⟨rfl, bthen Hb8.out Hb6.out⟩
    · have hn2 : ¬ (100 < (name.size : Int)) := by omega
      have HB := Lib.hid hB
      clear hB
      cases hp : parseP s with
      | error b =>
        rw [hp] at hpa
        have Hpa := Lib.hid hpa
        clear hpa hp
        go_enter Tryz.func17, Tryz.ntmps17
        go_upto_region 2 with (go_at_call 47; rw [← Hs.out]; (with_reducible refine (Hpa.out).mono ?_); rintro e w8 ⟨hb8, rfl⟩; have Hb8 := Lib.hid hb8; clear hb8)
        have hbn8 := hbn w8 Hb8.out
        have Hbn := Lib.hid hbn8
        clear hbn hbn8
        go_wp2_with (first | (go_at_call 32; (with_reducible refine (Hbn.out).mono ?_); rintro e w5 ⟨rfl, rfl⟩) | (go_at_call 34; (with_reducible refine (Fi.shown_calls _).mono ?_); rintro e w6 ⟨rfl, hb6⟩; have Hb6 := Lib.hid hb6; clear hb6))
        go_ret
        exact ⟨rfl, bthen Hb8.out Hb6.out⟩
      | ok l2 =>
        rw [hp] at hpa
        have Hpa := Lib.hid hpa; have Hp := Lib.hid hp
        clear hpa hp
        go_enter Tryz.func17, Tryz.ntmps17
        go_upto_region 2 with (go_at_call 47; rw [← Hs.out]; (with_reducible refine (Hpa.out).mono ?_); rintro e w8 ⟨hb8, v8, rfl, hr8⟩; have Hb8 := Lib.hid hb8; have Hr8 := Lib.hid (sel_of hr8); clear hb8 hr8)
        have hbn8 := hbn w8 Hb8.out
        have Hbn := Lib.hid hbn8
        clear hbn hbn8
        obtain ⟨A8, c8, rfl, hl8, hc8, hr8⟩ := Hr8.out.form
        simp only [maxLen] at hc8
        by_cases h1 : l2.length = 1
        · obtain ⟨r, rfl⟩ : ∃ r, l2 = [r] := List.length_eq_one_iff.1 h1
          obtain ⟨br, or_, Ar, cr, rfl, hbr, r0, hrow, hlr, hcr⟩ := row_at0 hr8 (by simp)
          simp only [List.getElem_cons_zero] at r0 hrow hlr
          simp only [List.length_cons, List.length_nil, Nat.zero_add] at *
          simp only [maxLen] at hcr
          by_cases h2 : r.length = 1
          · obtain ⟨x, rfl⟩ : ∃ x, r = [x] := List.length_eq_one_iff.1 h2
            obtain ⟨bs, os, At, ct, rfl, hbs, s0, htst, hlt, hct⟩ := step_at0 hrow (by simp)
            simp only [List.getElem_cons_zero] at s0 htst hlt
            simp only [List.length_cons, List.length_nil, Nat.zero_add] at *
            simp only [maxLen] at hct
            obtain ⟨xc, xch⟩ := x
            simp only at *
            by_cases h3 : xc.length = 1
            · obtain ⟨t, rfl⟩ : ∃ t, xc = [t] := List.length_eq_one_iff.1 h3
              obtain ⟨bt, ot, rfl, hbt, _, t1, _⟩ := test_at htst (i := 0) (by simp)
              simp only [List.getElem_cons_zero, List.length_cons, List.length_nil, Nat.zero_add, Nat.zero_mul, Nat.add_zero] at *
              obtain ⟨hk2, hk0⟩ := id_parse (by have := Hsz.out; omega) H35.out Hp.out
              have hsms : SmS [[{ c := [t], child := xch }]] := (parse_sm Hp.out).2
              have hm := grow_may l
              have hsm := Fi.grow_sm HB.out
              obtain ⟨f, hf⟩ : ∃ f, f = growF l := ⟨_, rfl⟩
              rw [← hf] at hm hsm
              have hgr' := fun w' (hb : Below w8.heap.size w8 w') => Hgr.out w' (bthen Hb8.out hb)
              simp only [← hf] at hgr'
              have hcl := fun w' (hb : Below w8.heap.size w8 w') => (⟨cell_grow hb r0, cell_grow hb s0, cell_grow hb t1⟩ : w'.cell? ⟨br, or_, none⟩ = _ ∧ w'.cell? ⟨bs, os, none⟩ = _ ∧ w'.cell? ⟨bt, ot + 1, none⟩ = _)
              have hrl := fun w' (hb : Below w8.heap.size w8 w') => (Hr8.out.below rowE_keeps (w' := w') hb (Nat.le_refl _)).mono rowE_keeps hb.size
              have hfind := id_find hm (ch := xch) hk2 hk0
              have Hg := Lib.hid hgr'; have Hm := Lib.hid hm; have Hsm := Lib.hid hsm; have Hcl := Lib.hid hcl; have Hrl := Lib.hid hrl; have Hfind := Lib.hid hfind; have Hsms := Lib.hid hsms
              clear hgr' hm hsm hcl hrl hfind hsms hk2 hk0 hf hr8 hrow htst h1 h2 h3
              go_upto_region 5 with (first | (go_at_call 32; (with_reducible refine (Hbn.out).mono ?_); rintro e w5 ⟨rfl, rfl⟩) | (go_at_call 34; (with_reducible refine (Fi.shown_calls _).mono ?_); rintro e w6 ⟨rfl, hb6⟩; have Hb6 := Lib.hid hb6; clear hb6) | (go_at_call 35; (with_reducible refine (Hg.out _ Hb6.out).mono ?_); rintro e w7 ⟨v7, rfl, hr7, hb7⟩; have Hr7 := Lib.hid hr7; have Hb7 := Lib.hid (bthen Hb6.out hb7); clear hr7 hb7))
              have hrd := fun w' (hb : Below w7.heap.size w7 w') => (Hr7.out.below nodeE_keeps (w' := w') hb (Nat.le_refl _)).mono nodeE_keeps hb.size
              obtain ⟨A7, c7, rfl, hl7, hc7, _⟩ := Hr7.out.form
              obtain ⟨k0, k1, k2⟩ := Hcl.out w7 Hb7.out
              have hid := Wk.ById_calls w7 _ f (hrd w7 (Below.refl _ _)) Hm.out t.name
              unfold Wk.ByIdPost at hid
              have hfi := fun w' (hb : Below w7.heap.size w7 w') => First_calls w' _ f (hrd w' hb) Hm.out Hsm.out 0 (by decide) _ _ (Hrl.out w' (bthen Hb7.out hb)) Hsms.out
              simp only [Hfind.out] at hfi
              cases ho : byId f t.name with
              | none =>
                rw [ho] at hid
                simp only [ho] at hfi
                unfold Wk.byIdV at hid
                unfold firstS at hfi
                have Hid := Lib.hid hid; have Hfi := Lib.hid hfi; have Hrd := Lib.hid hrd
                clear hid hfi hrd ho
                go_wp2_with (first | (go_at_call 50; (with_reducible refine (Hid.out).mono ?_); rintro e w9 ⟨rfl, hb9⟩; have Hb9 := Lib.hid hb9; clear hb9) | (go_at_call 38; (with_reducible refine (Hfi.out _ Hb9.out).mono ?_); rintro e w10 ⟨rfl, hb10⟩; have Hb10 := Lib.hid (bthen Hb9.out hb10); clear hb10))
                go_ret
                exact ⟨rfl, bthen Hb8.out (bthen Hb7.out Hb10.out)⟩
              | some k =>
                rw [ho] at hid
                simp only [ho] at hfi
                unfold Wk.byIdV at hid
                unfold firstS at hfi
                have Hid := Lib.hid hid; have Hfi := Lib.hid hfi; have Hrd := Lib.hid hrd
                clear hid hfi hrd ho
                go_wp2_with (first | (go_at_call 50; (with_reducible refine (Hid.out).mono ?_); rintro e w9 ⟨rfl, hb9⟩; have Hb9 := Lib.hid hb9; clear hb9) | (go_at_call 38; (with_reducible refine (Hfi.out _ Hb9.out).mono ?_); rintro e w10 ⟨rfl, hb10⟩; have Hb10 := Lib.hid (bthen Hb9.out hb10); clear hb10))
                go_ret
                exact ⟨rfl, bthen Hb8.out (bthen Hb7.out Hb10.out)⟩
            · have q3 : ((xc.length : Int) == 1) = false := by rw [beq_eq_false_iff_ne]; omega
              go_wp2_with (first | (go_at_call 32; (with_reducible refine (Hbn.out).mono ?_); rintro e w5 ⟨rfl, rfl⟩) | (go_at_call 34; (with_reducible refine (Fi.shown_calls _).mono ?_); rintro e w6 ⟨rfl, hb6⟩; have Hb6 := Lib.hid hb6; clear hb6))
              go_ret
              exact ⟨rfl, bthen Hb8.out Hb6.out⟩
          · have q3 : ((r.length : Int) == 1) = false := by rw [beq_eq_false_iff_ne]; omega
            go_wp2_with (first | (go_at_call 32; (with_reducible refine (Hbn.out).mono ?_); rintro e w5 ⟨rfl, rfl⟩) | (go_at_call 34; (with_reducible refine (Fi.shown_calls _).mono ?_); rintro e w6 ⟨rfl, hb6⟩; have Hb6 := Lib.hid hb6; clear hb6))
            go_ret
            exact ⟨rfl, bthen Hb8.out Hb6.out⟩
        · have q3 : ((l2.length : Int) == 1) = false := by rw [beq_eq_false_iff_ne]; omega
          go_wp2_with (first | (go_at_call 32; (with_reducible refine (Hbn.out).mono ?_); rintro e w5 ⟨rfl, rfl⟩) | (go_at_call 34; (with_reducible refine (Fi.shown_calls _).mono ?_); rintro e w6 ⟨rfl, hb6⟩; have Hb6 := Lib.hid hb6; clear hb6))
          go_ret
          exact ⟨rfl, bthen Hb8.out Hb6.out⟩
end Go.Proofs.YthdenkkllpkplaaGreat.LIds
end
section
/- The law FindIds answers true at every input, and each argument reads afterwards as it read before; the condition: what comes in is of bulk at most 1048576. -/
namespace Go.Proofs.YthdenkkllpkplaaGreat.findIds
open Go.ChangeShapes Go.WideShapes Go.ChangeAt Go.RowKit
open Go.ChangeMaps (open_string shut_string)
set_option linter.unusedVariables false
set_option linter.unusedSimpArgs false
theorem own : ownKnob Tryz.prog.godebug = none := by kernel_rfl
theorem laidOut : laidOutB Tryz.prog = true := by kernel_rfl
theorem bulk_len {H : Type} (l : List (DataW H)) : l.length ≤ Rows.uptoBulkAll l := by
  induction l with
  | nil => simp [Rows.uptoBulkAll]
  | cons x r ih =>
    have : 1 ≤ Rows.uptoBulk x := by cases x with
      | lit l => cases l <;> simp [Rows.uptoBulk]
      | _ => simp [Rows.uptoBulk]
    simp only [Rows.uptoBulkAll, List.length_cons]; omega
set_option maxRecDepth 100000 in
theorem contract (H : Type) (enc : TypeId × Value → H) (W : World) (base : Nat) (args : Array Value) (ds gs : List (DataW H)) (before : List MemPlace)
    (hval0 : ∀ (j : Nat) t v, Tryz.f17.params[j]? = some t → args[j]? = some v → Value.okWide Tryz.prog W .any base t v)
    (hW : DataW.Whole enc Tryz.prog Tryz.f17.params.toList Rows.findIdsSpec.vars false W args.toList ds gs before) (hk0 : Rows.uptoSmall H (ds ++ gs) = true) :
    Calls Tryz.prog 17 args W fun e W' => ∃ v, e = .returned v ∧ Rows.findIdsSpec.post enc Tryz.prog Tryz.f17 false true false false W args v W' := by
  have hk := hk0
  have hval : ∀ (j : Nat) t v, Tryz.f17.params[j]? = some t → args[j]? = some v → Value.okWide Tryz.prog W .any base t v := hval0
  have hW' := hW
  obtain ⟨p, q, hA0, hV, rfl, hfz, hnd⟩ := hW
  have hA : DataW.TrodAll enc Tryz.prog W 0 (fun _ => true) true Tryz.f17.params.toList args.toList ds p := hA0
  rw [Tryz.params17] at hA hval
  obtain ⟨v0, vs0, d0, ds0, p0, q0, hargs, rfl, rfl, h0, r0⟩ := trodAll_cons hA
  obtain ⟨v1, vs1, d1, ds1, p1, q1, rfl, rfl, rfl, h1, r1⟩ := trodAll_cons r0
  obtain ⟨rfl, rfl, rfl⟩ := trodAll_nil r1
  obtain rfl : args = #[v0, v1] := by cases args; simp_all
  obtain ⟨rfl, rfl⟩ := trodVars_none hV
  have k0 := h0
  have lt0 : ∀ x ∈ p0, x.block < W.heap.size := by obtain ⟨m, hm⟩ := k0; exact DataW.trod_lt m _ _ _ hm
  obtain ⟨l0, x0⟩ := Rd.open_list 6 Tryz.underlying22 (by kernel_rfl) (by decide) Shapes.opens_op_Op (hval 0 22 v0 rfl rfl) h0
  obtain ⟨a1, rfl, rfl, rfl, y1⟩ := open_string Tryz.underlying9 (hval 1 9 v1 rfl rfl) h1
  clear hA0 hval0
  refine (LIds.law_calls W l0 v0 x0 a1 (by have hb := of_decide_eq_true hk; simp only [List.cons_append, List.nil_append, List.append_nil, Rows.uptoBulkAll, Rows.uptoBulk] at hb; have e : a1.data.toList.length = a1.size := (by rw [Array.length_toList]; rfl); omega)).mono fun e W' ⟨he, bel⟩ => ?_
  subst he
  exact ⟨_, rfl, _, _, _, [], _, [], hW', trodAll_mk1 (shut_bool Tryz.underlying4 _), (trodAll_cons_mk (Below.trod laidOut (by kernel_rfl) (of_decide_eq_true (by kernel_rfl)) k0 bel lt0) (trodAll_cons_mk (shut_string Tryz.underlying9 y1) trodAll_mk0)), rfl, bel.frame _, fun h => by cases h⟩
set_option maxRecDepth 100000 in
theorem lifted (os : Os) (started : os.Started) (H : Type) (enc : TypeId × Value → H) (F : Stop.Interp) :
    ReturnsInHanded {} Tryz.checked os 17 .any ((Rows.OpenSpec.upto Rows.findIdsSpec).pre6 enc Tryz.prog Tryz.f17 Rows.findIdsUptoRow.domain false) (((Rows.OpenSpec.upto Rows.findIdsSpec).at F).post enc Tryz.prog Tryz.f17 false true false false) := by
  refine returnsInHanded_of_cond (C := Tryz.checked) (s := Rows.OpenSpec.upto Rows.findIdsSpec) (k := Rows.uptoSmall) rfl own started (by kernel_rfl) Tryz.func17
    (OpenSpec.witness (enc := enc) (C := Tryz.checked) (s := Rows.OpenSpec.upto Rows.findIdsSpec) (k := Rows.uptoSmall) rfl false ⟨#[], #[.slice none 0 0, .string ByteArray.empty], []⟩ 8 (by kernel_rfl) (by kernel_rfl) (by kernel_rfl)
      (x := ([.nil, .lit (.string [])], [], [])) (by kernel_rfl) rfl (by kernel_rfl)) ?_
  intro W base args ds gs before hval hW _ hk _
  exact contract H enc W base args ds gs before hval hW hk
set_option maxHeartbeats 20000000 in
theorem closed : joinedFacts Tryz.pinned.checked.prog 17 Tryz.f17 (Rows.OpenSpec.upto Rows.findIdsSpec).bare Rows.findIdsUptoRow = true := by
  unfold joinedFacts
  repeat' (with_reducible refine Bool.and_eq_true_iff.2 ⟨?_, ?_⟩)
  all_goals as_aux_lemma => kernel_rfl
theorem over : Rows.findIdsUptoRow.holds Tryz.pinned (Rows.OpenSpec.upto Rows.findIdsSpec) :=
  OpenClaim.holds_of_cond 17 Tryz.f17 rfl rfl rfl rfl rfl rfl rfl ⟨rfl, rfl, rfl, rfl, rfl⟩ rfl rfl rfl rfl rfl (by kernel_rfl) Tryz.func17 closed
    (of_decide_eq_true (by kernel_rfl)) (by unfold Func.isWrapper; first | (rw [if_pos (by decide +kernel)]; kernel_rfl) | (rw [if_neg (by decide +kernel)]; exact ⟨rfl, rfl⟩))
    (fun os started H enc _ F => lifted os started H enc F)
theorem proved : Rows.FindIdsUptoSaid := over
end Go.Proofs.YthdenkkllpkplaaGreat.findIds
namespace Go.Proofs.YthdenkkllpkplaaGreat
/-- The row, under a short name, for the claim. -/
theorem findIdsUpto_holds : Rows.FindIdsUptoSaid := findIds.proved
#print axioms findIdsUpto_holds
end Go.Proofs.YthdenkkllpkplaaGreat
end
