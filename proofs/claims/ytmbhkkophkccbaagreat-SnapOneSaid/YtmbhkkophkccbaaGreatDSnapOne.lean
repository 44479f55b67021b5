import Derived.Test.YtmbhkkophkccbaaGreatRows
import Derived.WalkKit
import Derived.ProofKit
import Derived.OpenShut
import Derived.ShutString
import Derived.ChangeOld
import Derived.Below
import Derived.SizedLaws
import Derived.Test.YtmbhkkophkccbaaGreatC28
import Derived.Test.YtmbhkkophkccbaaGreatC29
section
namespace Go.Proofs.YtmbhkkophkccbaaGreat.LSOne
open Go Go.RowKit Go.Proofs.YtmbhkkophkccbaaGreat.Seq WS FS Mem Rd Shapes Word FFam Wk Fn Pa Hs Grown Sn
set_option linter.unusedVariables false
set_option linter.unusedSimpArgs false
set_option maxRecDepth 100000 in
set_option maxHeartbeats 16000000 in
theorem law_calls (w : World) (l : List Opn) (v : Value) (h : RdO w.heap.size w v l) (name : ByteArray) (hnz : name.size ≤ maxLen) :
  Calls Tryz.prog 8 #[v, .string name] w fun e w' => e = .returned (.bool true) ∧ Below w.heap.size w w' := by
 have hbn := S13.bounded_calls w v l h
 have hgr := fun w' (hb : Below w.heap.size w w') => S13.grown_calls w' v l ((h.below opE_keeps (w' := w') hb (Nat.le_refl _)).mono opE_keeps hb.size)
 unfold S13.GrownPost at hgr
 have hnm := fun w' => R2.Name_calls name (by simp only [maxLen] at hnz; omega) w'
 obtain ⟨A0, c0, rfl, hl0, hc0, _⟩ := h.form
 simp only [maxLen] at hc0
 cases hB : bndO l with
 | false =>
  rw [hB] at hbn
  have Hbn := Lib.hid hbn; have Hnm := Lib.hid hnm
  clear hbn hB hgr h hnz hnm
  go_enter Tryz.func8, Tryz.ntmps8
  go_wp2_with (first | (go_at_call 28; (with_reducible refine (Hbn.out).mono ?_); rintro e w5 ⟨rfl, rfl⟩) | (go_at_call 37; (with_reducible refine (Hnm.out _).mono ?_); rintro e w5 ⟨rfl, rfl⟩) | (go_at_call 29; (with_reducible refine (S13.shown_calls _).mono ?_); rintro e w6 ⟨rfl, hb6⟩; have Hb6 := Lib.hid hb6; clear hb6))
  go_ret
  exact ⟨rfl, Hb6.out⟩
 | true =>
  rw [hB] at hbn
  cases hN : nameB name.data.toList with
  | false =>
   simp only [hN] at hnm
   have Hbn := Lib.hid hbn; have Hnm := Lib.hid hnm
   clear hbn hB hgr h hnz hnm hN
   go_enter Tryz.func8, Tryz.ntmps8
   go_wp2_with (first | (go_at_call 28; (with_reducible refine (Hbn.out).mono ?_); rintro e w5 ⟨rfl, rfl⟩) | (go_at_call 37; (with_reducible refine (Hnm.out _).mono ?_); rintro e w5 ⟨rfl, rfl⟩) | (go_at_call 29; (with_reducible refine (S13.shown_calls _).mono ?_); rintro e w6 ⟨rfl, hb6⟩; have Hb6 := Lib.hid hb6; clear hb6))
   go_ret
   exact ⟨rfl, Hb6.out⟩
  | true =>
   simp only [hN] at hnm
   have hnl := name_len hN
   rw [← Lib.size_eq] at hnl
   have hm := grow_may l
   obtain ⟨f, hf⟩ : ∃ f, f = growF l := ⟨_, rfl⟩
   rw [← hf] at hm
   simp only [← hf] at hgr
   have hq7 : QyOk { kind := 7, text := name } := ⟨hnz, show (Lit.int .i64 7).wf = true by decide, show (Lit.int .i64 0).wf = true by decide, show (Lit.int .i64 0).wf = true by decide⟩
   have hq8 : QyOk { kind := 8, text := hashT name } := ⟨by show (hashT name).size ≤ maxLen; rw [hash_size]; simp only [maxLen]; omega, show (Lit.int .i64 8).wf = true by decide, show (Lit.int .i64 0).wf = true by decide, show (Lit.int .i64 0).wf = true by decide⟩
   obtain ⟨L, hL⟩ : ∃ L, L = (order f 0).filter (hitB f name) := ⟨_, rfl⟩
   obtain ⟨o, ho⟩ : ∃ o, o = byId f name := ⟨_, rfl⟩
   have hLo : L.head? = o := by rw [hL, ho, filter_find]; rfl
   have ha := fun w' A c (hr : RdF w'.heap.size w' (.slice A f.length c) f) => (show Calls Tryz.prog 31 #[.slice A f.length c, .agg #[.int .i64 7, .int .i64 0, .int .i64 0, .string name]] w' (AnsPost (oneA (byIdV f o)) w') from by
    have := Of_calls w' A c { kind := 7, text := name } f hr hm hq7 (by show name.size ≤ 1048576; omega)
    rw [of_byId, ← ho] at this
    exact this)
   have hbb := fun w' A c (hr : RdF w'.heap.size w' (.slice A f.length c) f) => (show Calls Tryz.prog 31 #[.slice A f.length c, .agg #[.int .i64 8, .int .i64 0, .int .i64 0, .string ((⟨#[35]⟩ : ByteArray) ++ name)]] w' (AnsPost { nums := L } w') from by
    have := Of_calls w' A c { kind := 8, text := hashT name } f hr hm hq8 (by show (hashT name).size ≤ 1048576; rw [hash_size]; omega)
    rw [of_hash hm hN, ← hL] at this
    exact this)
   unfold AnsPost at ha hbb
   have hnl2 : name.size ≤ 20 := hnl.2
   have Hbn := Lib.hid hbn; have Hg := Lib.hid hgr; have Hnm := Lib.hid hnm; have Ha := Lib.hid ha; have Hbb := Lib.hid hbb; have HLo := Lib.hid hLo
   clear hbn hB hgr h hf hm hnm hN hq7 hq8 hL ho hLo ha hbb hnl hnz
   obtain ⟨a, hA⟩ : ∃ a, a = oneA (byIdV f o) := ⟨_, rfl⟩
   have Ha2 := Ha.out
   simp only [← hA] at Ha2
   have Haa := Lib.hid Ha2; have HA := Lib.hid hA
   clear Ha2 Ha hA
   go_enter Tryz.func8, Tryz.ntmps8
   go_upto_region 4 with (first | (go_at_call 28; (with_reducible refine (Hbn.out).mono ?_); rintro e w5 ⟨rfl, rfl⟩) | (go_at_call 37; (with_reducible refine (Hnm.out _).mono ?_); rintro e w5 ⟨rfl, rfl⟩) | (go_at_call 29; (with_reducible refine (S13.shown_calls _).mono ?_); rintro e w6 ⟨rfl, hb6⟩; have Hb6 := Lib.hid hb6; clear hb6) | (go_at_call 30; (with_reducible refine (Hg.out _ Hb6.out).mono ?_); rintro e w7 ⟨v7, rfl, hr7, hb7⟩; have Hr7 := Lib.hid hr7; have Hb7 := Lib.hid (bthen Hb6.out hb7); clear hr7 hb7))
   obtain ⟨A7, c7, rfl, hl7, hc7, hr7⟩ := Hr7.out.form
   simp only [maxLen] at hc7
   have ha7 := Haa.out w7 A7 c7 hr7
   have hrd := fun w' (hb : Below w7.heap.size w7 w') => (hr7.below nodeE_keeps (w' := w') hb (Nat.le_refl _)).mono nodeE_keeps hb.size
   have Ha7 := Lib.hid ha7; have Hrd := Lib.hid hrd
   clear ha7 hrd hr7 Hr7 Haa
   go_upto_region 5 with (go_at_call 31; (with_reducible refine (Ha7.out).mono ?_); rintro e w8 ⟨A8, c8, rfl, hr8, hb8, _⟩; have Hr8 := Lib.hid hr8; have Hb8 := Lib.hid hb8; clear hr8 hb8)
   obtain ⟨w9, hw9⟩ : ∃ w9, w8.alloc (.cells #[.slice A8 a.nums.length c8, .string a.text, .int .i64 a.e] 71) = w9 := ⟨_, rfl⟩
   have q9 : w9.heap[w8.heap.size]? = some (.cells #[.slice A8 a.nums.length c8, .string a.text, .int .i64 a.e] 71 (0, 0)) := by rw [← hw9]; exact World.alloc_heap_new _ _
   have hb89 : Below w8.heap.size w8 w9 := by rw [← hw9]; exact (Below.refl _ _).alloc (Nat.le_refl _) _
   have hra := fun w' (hb : Below w9.heap.size w9 w') => (Hr8.out.below (intE_keeps _) (w' := w') (bthen hb89 hb) (Nat.le_refl _)).mono (intE_keeps _) (bthen hb89 hb).size
   have hb79 := bthen Hb8.out hb89
   have hbb9 := Hbb.out w9 A7 c7 (Hrd.out w9 hb79)
   rw [hw9]
   have Hq9 := Lib.hid q9; have Hra := Lib.hid hra; have Hbb9 := Lib.hid hbb9; have Hb79 := Lib.hid hb79
   clear hw9 q9 hra hbb9 hb79 hb89 Hr8 Hb8 Ha7 Hbb
   generalize w8.heap.size = N8 at *
   go_upto_region 6 with (go_at_call 31; (with_reducible refine (Hbb9.out).mono ?_); rintro e w10 ⟨A10, c10, rfl, hr10, hb10, _⟩; have Hr10 := Lib.hid hr10; have Hb10 := Lib.hid hb10; clear hr10 hb10)
   (try simp only at Hr10 ⊢)
   obtain ⟨w11, hw11⟩ : ∃ w11, w10.alloc (.cells #[.slice A10 L.length c10, .string ⟨#[]⟩, .int .i64 0] 71) = w11 := ⟨_, rfl⟩
   have q11 : w11.heap[w10.heap.size]? = some (.cells #[.slice A10 L.length c10, .string ⟨#[]⟩, .int .i64 0] 71 (0, 0)) := by rw [← hw11]; exact World.alloc_heap_new _ _
   have hb1011 : Below w10.heap.size w10 w11 := by rw [← hw11]; exact (Below.refl _ _).alloc (Nat.le_refl _) _
   have hb911 := bthen Hb10.out hb1011
   have hrb := (Hr10.out.below (intE_keeps _) hb1011 (Nat.le_refl _)).mono (intE_keeps _) hb1011.size
   have hra11 := Hra.out w11 hb911
   obtain ⟨x0, x1, x2⟩ := ans_cells ((hb911.block _ (lt_heap Hq9.out)).trans Hq9.out)
   obtain ⟨y0, y1, y2⟩ := ans_cells q11
   have HBX := Lib.hid (bthen Hb7.out (bthen Hb79.out hb911))
   rw [hw11]
   clear hw11 q11 hb1011 hb911 Hr10 Hb10 Hra Hq9 Hbb9 Hb79 Hrd
   generalize w10.heap.size = N10 at *
   have hLo := HLo.out
   have hA := HA.out
   cases o with
   | none =>
    have hL0 : L = [] := by cases L with | nil => rfl | cons x r => cases hLo
    subst hL0
    have hA2 : a = { e := 3 } := by rw [hA]; rfl
    subst hA2
    have Hra := Lib.hid hra11; have Hrb := Lib.hid hrb
    clear hLo hA HA HLo hra11 hrb
    go_upto_region 8 with fail
    go_region
    go_wp2_with fail
    go_ret
    exact ⟨rfl, by first | exact HBX.out.drew | exact HBX.out⟩
   | some k =>
    obtain ⟨r, hL0⟩ : ∃ r, L = k :: r := by cases L with | nil => cases hLo | cons x r => injection hLo with e; subst e; exact ⟨r, rfl⟩
    subst hL0
    have hA2 : a = { nums := [k] } := by rw [hA]; rfl
    subst hA2
    obtain ⟨ba, oa, rfl, _, p0, _⟩ := intE_at hra11 (i := 0) (by simp)
    obtain ⟨bb, ob, rfl, _, r0, _⟩ := intE_at hrb (i := 0) (by simp)
    have p1 : w11.cell? ⟨ba, oa, none⟩ = some (.int .i64 k) := by
     have := p0
     rw [Nat.add_zero] at this
     exact this
    have r1 : w11.cell? ⟨bb, ob, none⟩ = some (.int .i64 k) := by
     have := r0
     rw [Nat.add_zero] at this
     exact this
    have hpos : 0 < (((k :: r).length : Nat) : Int) := by simp
    obtain ⟨m, hm⟩ : ∃ m, m = (k :: r).length := ⟨_, rfl⟩
    (try simp only [List.length_cons, List.length_nil, Nat.zero_add] at *)
    have Hra := Lib.hid hra11; have Hrb := Lib.hid hrb
    clear hLo hA HA HLo p0 r0 hra11 hrb hm
    go_upto_region 8 with fail
    go_region
    go_wp2_with fail
    go_ret
    exact ⟨rfl, by first | exact HBX.out.drew | exact HBX.out⟩
end Go.Proofs.YtmbhkkophkccbaaGreat.LSOne
end
section
namespace Go.Proofs.YtmbhkkophkccbaaGreat.snapOne
open Go.ChangeShapes Go.WideShapes Go.ChangeAt Go.RowKit
open Go.ChangeMaps (open_string shut_string)
set_option linter.unusedVariables false
theorem own : ownKnob Tryz.prog.godebug = none := by kernel_rfl
theorem laidOut : laidOutB Tryz.prog = true := by kernel_rfl
set_option maxRecDepth 100000 in
theorem lifted (os : Os) (started : os.Started) (H : Type) (enc : TypeId × Value → H) :
  ReturnsInHanded {} Tryz.checked os 8 .any (Rows.snapOneSpec.pre6 enc Tryz.prog Tryz.f8 Rows.snapOneRow.domain false) (Rows.snapOneSpec.post enc Tryz.prog Tryz.f8 false true false false) := by
 refine returnsInHanded_of_change_sized (C := Tryz.checked) own started (by kernel_rfl) Tryz.func8
  (ChangeSpec.witness6 (enc := enc) (C := Tryz.checked) false ⟨#[], #[.slice none 0 0, .string ByteArray.empty], []⟩ 8 (by kernel_rfl) (by kernel_rfl) (by kernel_rfl) (by kernel_rfl)) ?_
 intro W base args ds gs before hval0 hW hcnd hsz0 _
 have hsz : (DataW.weightsEach Tryz.prog (Tryz.f8.params.toList ++ Rows.snapOneSpec.plain.varTypes Tryz.prog) (ds ++ gs)).all (· ≤ reachBytes) = true := hsz0
 have hval : ∀ (j : Nat) t v, Tryz.f8.params[j]? = some t → args[j]? = some v → Value.okWide Tryz.prog W .any base t v := hval0
 have hW' := hW
 obtain ⟨p, q, hA0, hV, rfl, hfz, hnd⟩ := hW
 have hA : DataW.TrodAll enc Tryz.prog W 0 (fun _ => true) true Tryz.f8.params.toList args.toList ds p := hA0
 rw [Tryz.params8] at hA hval hsz
 obtain ⟨v0, vs0, d0, ds0, p0, q0, hargs, rfl, rfl, h0, r0⟩ := trodAll_cons hA
 obtain ⟨v1, vs1, d1, ds1, p1, q1, rfl, rfl, rfl, h1, r1⟩ := trodAll_cons r0
 obtain ⟨rfl, rfl, rfl⟩ := trodAll_nil r1
 obtain rfl : args = #[v0, v1] := by cases args; simp_all
 obtain ⟨rfl, rfl⟩ := trodVars_none hV
 have k0 := h0
 have lt0 : ∀ x ∈ p0, x.block < W.heap.size := by obtain ⟨m, hm⟩ := k0; exact DataW.trod_lt m _ _ _ hm
 obtain ⟨l0, x0⟩ := Rd.open_list 6 Tryz.underlying22 (by kernel_rfl) (by decide) Shapes.opens_op_Op (hval 0 22 v0 rfl rfl) h0
 obtain ⟨a1, rfl, rfl, rfl, y1⟩ := open_string Tryz.underlying9 (hval 1 9 v1 rfl rfl) h1
 clear hA0 hval0 hsz0 hsz
 refine (LSOne.law_calls W l0 v0 x0 a1 y1).mono fun e W' ⟨he, bel⟩ => ?_
 subst he
 exact ⟨_, rfl, _, _, _, [], _, [], hW', trodAll_mk1 (shut_bool Tryz.underlying4 _), (trodAll_cons_mk (Below.trod laidOut (by kernel_rfl) (of_decide_eq_true (by kernel_rfl)) k0 bel lt0) (trodAll_cons_mk (shut_string Tryz.underlying9 y1) trodAll_mk0)), rfl, bel.frame _, fun h => by cases h⟩
set_option maxHeartbeats 20000000 in
theorem closed : joinedFacts Tryz.pinned.checked.prog 8 Tryz.f8 Rows.snapOneSpec Rows.snapOneRow = true := by
 unfold joinedFacts
 repeat' (with_reducible refine Bool.and_eq_true_iff.2 ⟨?_, ?_⟩)
 all_goals as_aux_lemma => kernel_rfl
theorem over : Rows.snapOneRow.holds Tryz.pinned (OpenSpec.ofChange Rows.snapOneSpec) :=
 OpenClaim.holds_of_wide 8 Tryz.f8 rfl rfl rfl rfl rfl rfl rfl ⟨rfl, rfl, rfl, rfl, rfl⟩ rfl rfl rfl rfl rfl (by kernel_rfl) Tryz.func8 closed
  (of_decide_eq_true (by kernel_rfl)) (by unfold Func.isWrapper; first | (rw [if_pos (by decide +kernel)]; kernel_rfl) | (rw [if_neg (by decide +kernel)]; exact ⟨rfl, rfl⟩))
  (fun os started H enc _ => lifted os started H enc)
theorem proved : Rows.SnapOneSaid := over
end Go.Proofs.YtmbhkkophkccbaaGreat.snapOne
namespace Go.Proofs.YtmbhkkophkccbaaGreat
theorem snapOne_holds : Rows.SnapOneSaid := snapOne.proved
#print axioms snapOne_holds
end Go.Proofs.YtmbhkkophkccbaaGreat
end
