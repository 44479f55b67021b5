import Derived.Test.YtmbhkkophkccbaaGreatRows
import Derived.WalkKit
import Derived.ProofKit
import Derived.OpenShut
import Derived.ShutString
import Derived.ChangeOld
import Derived.Below
import Derived.SizedLaws
import Derived.Test.YtmbhkkophkccbaaGreatC28
section
namespace Go.Proofs.YtmbhkkophkccbaaGreat.LSKid
open Go Go.RowKit Go.Proofs.YtmbhkkophkccbaaGreat.Seq WS FS Mem Rd Shapes Word FFam Wk Fn Pa Hs Grown Sn
set_option linter.unusedVariables false
set_option linter.unusedSimpArgs false
theorem u8_nat' {a : Int} (h : (Lit.int .u8 a).wf = true) : ∃ n : Nat, a = n ∧ n ≤ 255 := by
 simp only [Lit.wf, Bool.and_eq_true, decide_eq_true_eq] at h
 have h0 : (0 : Int) ≤ a := h.1
 have h1 : a ≤ 255 := h.2
 exact ⟨a.toNat, by omega, by omega⟩
theorem rem_nat (a b : Nat) (hb : 0 < b) : (a : Int) % (b : Int) = ((a % b : Nat) : Int) ∧ Int.tmod (a : Int) (b : Int) = ((a % b : Nat) : Int) := by
 have h1 : (a : Int) % (b : Int) = ((a % b : Nat) : Int) := by omega
 exact ⟨h1, by rw [Int.tmod_eq_emod_of_nonneg (by omega)]; exact h1⟩
theorem qy_ok {k i b : Int} (hk : 0 ≤ k ∧ k < 1000) (hi : 0 ≤ i ∧ i < 1000) (hb : 0 ≤ b ∧ b < 1000) : QyOk { kind := k, id := i, by_ := b } :=
 ⟨show (0 : Nat) ≤ maxLen by decide, wf_small (show -1 ≤ k by omega) hk.2, wf_small (show -1 ≤ i by omega) hi.2, wf_small (show -1 ≤ b by omega) hb.2⟩
section
variable {f : Fo} (hm : mayB f = true) {n : Int} (hn : isNode f n = true)
include hm hn
omit hm in
theorem of_kids : ofA f { kind := 2, id := n } = { nums := (at_ f n).kids } := by
 unfold ofA
 rw [if_pos ⟨show (1 : Int) ≤ 2 by decide, show (2 : Int) ≤ 9 by decide⟩]
 show ({ nums := (kidsE f n).1, e := (kidsE f n).2 } : An) = _
 unfold kidsE
 rw [if_neg (by rw [hn]; decide)]
theorem of_par {i : Nat} (hi : i < (at_ f n).kids.length) : ofA f { kind := 1, id := (at_ f n).kids[i] } = { nums := [n] } := by
 obtain ⟨h1, h2⟩ := fam_kids (may_is hm).fam hn (List.getElem_mem hi)
 have h0 := ((node_iff f n).1 hn).1
 unfold ofA
 rw [if_pos ⟨show (1 : Int) ≤ 1 by decide, show (1 : Int) ≤ 9 by decide⟩]
 show oneA (parentE f (at_ f n).kids[i]) = _
 unfold parentE
 rw [if_neg (by rw [h1]; decide), if_neg (by rw [h2]; omega), h2]
 rfl
theorem of_bes {i : Nat} (hi : i < (at_ f n).kids.length) : ofA f { kind := 3, id := (at_ f n).kids.getD 0 0, by_ := (i : Int) } = { nums := [(at_ f n).kids[i]] } := by
 have hz : (at_ f n).kids.getD 0 0 = (at_ f n).kids[0] := by rw [List.getD_eq_getElem?_getD, List.getElem?_eq_getElem (by omega)]; rfl
 have hb := beside_at (may_is hm) hn (j := 0) (by omega) rfl (i : Int)
 rw [if_pos (by omega)] at hb
 unfold ofA
 rw [if_pos ⟨show (1 : Int) ≤ 3 by decide, show (3 : Int) ≤ 9 by decide⟩]
 show oneA (besideE f ((at_ f n).kids.getD 0 0) (i : Int)) = _
 rw [hz, hb]
 have e : ((0 : Nat) : Int) + (i : Int) = (i : Int) := by omega
 rw [e, Int.toNat_natCast, List.getD_eq_getElem?_getD, List.getElem?_eq_getElem hi]
 rfl
theorem kid_small {i : Nat} (hi : i < (at_ f n).kids.length) : 0 ≤ (at_ f n).kids[i] ∧ (at_ f n).kids[i] < 1000 := by
 have h1 := (node_iff _ _).1 (fam_kids (may_is hm).fam hn (List.getElem_mem hi)).1
 have := (may_is hm).len
 omega
end
def Asks (f : Fo) (A : Option Addr) (c : Nat) (w : World) (a : An) (q : Value) : Prop := Calls Tryz.prog 31 #[.slice A f.length c, q] w (AnsPost a w)
set_option maxRecDepth 100000 in
set_option maxHeartbeats 16000000 in
theorem law_calls (w : World) (l : List Opn) (v : Value) (h : RdO w.heap.size w v l) (t : Int) (ht : (Lit.int .u8 t).wf = true) :
  Calls Tryz.prog 6 #[v, .int .u8 t] w fun e w' => e = .returned (.bool true) ∧ Below w.heap.size w w' := by
 have hbn := S13.bounded_calls w v l h
 have hgr := fun w' (hb : Below w.heap.size w w') => S13.grown_calls w' v l ((h.below opE_keeps (w' := w') hb (Nat.le_refl _)).mono opE_keeps hb.size)
 unfold S13.GrownPost at hgr
 obtain ⟨A0, c0, rfl, hl0, hc0, _⟩ := h.form
 simp only [maxLen] at hc0
 cases hB : bndO l with
 | false =>
  rw [hB] at hbn
  have Hbn := Lib.hid hbn
  clear hbn hB ht hgr h
  go_enter Tryz.func6, Tryz.ntmps6
  go_wp2_with (first | (go_at_call 28; (with_reducible refine (Hbn.out).mono ?_); rintro e w5 ⟨rfl, rfl⟩) | (go_at_call 29; (with_reducible refine (S13.shown_calls _).mono ?_); rintro e w6 ⟨rfl, hb6⟩; have Hb6 := Lib.hid hb6; clear hb6))
  go_ret
  exact ⟨rfl, Hb6.out⟩
 | true =>
  rw [hB] at hbn
  have hm := grow_may l
  obtain ⟨tn, rfl, htn⟩ := u8_nat' ht
  obtain ⟨f, hf⟩ : ∃ f, f = growF l := ⟨_, rfl⟩
  rw [← hf] at hm
  simp only [← hf] at hgr
  have hlen := may_len hm
  have Hbn := Lib.hid hbn; have Hg := Lib.hid hgr; have Hm := Lib.hid hm
  clear hbn hB ht hgr h hf hm
  go_enter Tryz.func6, Tryz.ntmps6
  go_upto_region 4 with (first | (go_at_call 28; (with_reducible refine (Hbn.out).mono ?_); rintro e w5 ⟨rfl, rfl⟩) | (go_at_call 29; (with_reducible refine (S13.shown_calls _).mono ?_); rintro e w6 ⟨rfl, hb6⟩; have Hb6 := Lib.hid hb6; clear hb6) | (go_at_call 30; (with_reducible refine (Hg.out _ Hb6.out).mono ?_); rintro e w7 ⟨v7, rfl, hr7, hb7⟩; have Hr7 := Lib.hid hr7; have Hb7 := Lib.hid (bthen Hb6.out hb7); clear hr7 hb7))
  obtain ⟨A7, c7, rfl, hl7, hc7, hr7⟩ := Hr7.out.form
  simp only [maxLen] at hc7
  obtain ⟨tt, htt⟩ : ∃ m, m = tn % f.length := ⟨_, rfl⟩
  have htt6 : tt < f.length := by rw [htt]; exact Nat.mod_lt _ (by omega)
  obtain ⟨u1, u2⟩ := rem_nat tn f.length (by omega)
  rw [← htt] at u1 u2
  have hq : ((f.length : Int) == 0) = false := by rw [beq_eq_false_iff_ne]; omega
  have hnode : isNode f (tt : Int) = true := by unfold isNode; rw [Bool.and_eq_true, decide_eq_true_eq, decide_eq_true_eq]; omega
  have hrd := fun w' (hb : Below w7.heap.size w7 w') => (hr7.below nodeE_keeps (w' := w') hb (Nat.le_refl _)).mono nodeE_keeps hb.size
  have hsm := (may_is Hm.out).len
  have hkl := kids_len Hm.out hnode
  have hak : Calls Tryz.prog 31 #[.slice A7 f.length c7, .agg #[.int .i64 2, .int .i64 (tt : Int), .int .i64 0, .string ⟨#[]⟩]] w7 (AnsPost { nums := (at_ f (tt : Int)).kids } w7) := by
   have := Of_calls w7 A7 c7 { kind := 2, id := (tt : Int) } f hr7 Hm.out (qy_ok (by decide) (by omega) (by decide)) (by show (0 : Nat) ≤ 1048576; decide)
   rw [of_kids hnode] at this
   exact this
  have hap := fun w' (hb : Below w7.heap.size w7 w') (i : Nat) (hi : i < (at_ f (tt : Int)).kids.length) => (show Calls Tryz.prog 31 #[.slice A7 f.length c7, .agg #[.int .i64 1, .int .i64 (at_ f (tt : Int)).kids[i], .int .i64 0, .string ⟨#[]⟩]] w' (AnsPost { nums := [(tt : Int)] } w') from by
   have := Of_calls w' A7 c7 { kind := 1, id := (at_ f (tt : Int)).kids[i] } f (hrd w' hb) Hm.out (qy_ok (by decide) (kid_small Hm.out hnode hi) (by decide)) (by show (0 : Nat) ≤ 1048576; decide)
   rw [of_par Hm.out hnode hi] at this
   exact this)
  have hab := fun w' (hb : Below w7.heap.size w7 w') (i : Nat) (hi : i < (at_ f (tt : Int)).kids.length) => (show Calls Tryz.prog 31 #[.slice A7 f.length c7, .agg #[.int .i64 3, .int .i64 ((at_ f (tt : Int)).kids.getD 0 0), .int .i64 (i : Int), .string ⟨#[]⟩]] w' (AnsPost { nums := [(at_ f (tt : Int)).kids[i]] } w') from by
   have := Of_calls w' A7 c7 { kind := 3, id := (at_ f (tt : Int)).kids.getD 0 0, by_ := (i : Int) } f (hrd w' hb) Hm.out (qy_ok (by decide) (by rw [List.getD_eq_getElem?_getD, List.getElem?_eq_getElem (show 0 < (at_ f (tt : Int)).kids.length by omega)]; exact kid_small Hm.out hnode (show 0 < (at_ f (tt : Int)).kids.length by omega)) (by omega)) (by show (0 : Nat) ≤ 1048576; decide)
   rw [of_bes Hm.out hnode hi] at this
   exact this)
  generalize (at_ f (tt : Int)).kids = K at *
  unfold AnsPost at hak hap hab
  have Hak := Lib.hid hak; have Hap := Lib.hid hap; have Hab := Lib.hid hab; have Htt := Lib.hid htt; have Hhn := Lib.hid hnode; have Hkl := Lib.hid hkl
  clear hak hap hab htt hnode hrd hr7 Hr7 hsm hkl hlen
  go_upto_region 8 with (go_at_call 31; (with_reducible refine (Hak.out).mono ?_); rintro e w8 ⟨A8, c8, rfl, hr8, hb8, _⟩; have Hr8 := Lib.hid hr8; have Hb8 := Lib.hid hb8; clear hr8 hb8)
  (try simp only at Hr8 ⊢)
  obtain ⟨w9, hw9⟩ : ∃ w9, w8.alloc (.cells #[.slice A8 K.length c8, .string ⟨#[]⟩, .int .i64 0] 71) = w9 := ⟨_, rfl⟩
  have q9 : w9.heap[w8.heap.size]? = some (.cells #[.slice A8 K.length c8, .string ⟨#[]⟩, .int .i64 0] 71 (0, 0)) := by rw [← hw9]; exact World.alloc_heap_new _ _
  have hb89 : Below w8.heap.size w8 w9 := by rw [← hw9]; exact (Below.refl _ _).alloc (Nat.le_refl _) _
  have hb79 := bthen Hb8.out hb89
  have hrk := fun w' (hb : Below w9.heap.size w9 w') => (Hr8.out.below (intE_keeps _) (w' := w') (bthen hb89 hb) (Nat.le_refl _)).mono (intE_keeps _) (bthen hb89 hb).size
  have hqk := fun w' (hb : Below w9.heap.size w9 w') => ans_cells ((hb.block _ (lt_heap q9)).trans q9)
  have hK8 : K.length ≤ c8 := by obtain ⟨A', c', e', h', _⟩ := Hr8.out; injection e' with e1 e2 e3; omega
  have hc8 : c8 ≤ maxLen := by obtain ⟨A', c', e', _, h', _⟩ := Hr8.out; injection e' with e1 e2 e3; omega
  simp only [maxLen] at hc8
  rw [hw9]
  have Hw9 := Lib.hid hb79; have Hrk := Lib.hid hrk; have Hqk := Lib.hid hqk
  clear hw9 q9 hb89 hb79 hrk hqk Hr8 Hb8 Hak
  generalize w8.heap.size = N8 at *
  go_wp2_with fail
  go_loopw [8] (fun i wr => ∃ k : Nat, k ≤ K.length ∧ i = .int .i64 k ∧ Hid (Below w9.heap.size w9 wr)) (fun i _ => K.length - (intOf i).toNat)
  case atStart => exact ⟨0, Nat.zero_le _, rfl, Lib.hid (Below.refl _ _)⟩
  case round =>
   obtain ⟨k, hk, rfl, hb⟩ := hrel
   obtain ⟨x0, x1, x2⟩ := Hqk.out wr hb.out
   by_cases hlt : k < K.length
   ·obtain ⟨wo, rfl⟩ : ∃ wo : World, wo = wr := ⟨_, rfl⟩
    have hlt0 : (k : Int) < (K.length : Int) := by omega
    obtain ⟨bk, ok, rfl, hbk, g0, _⟩ := intE_at (Hrk.out wo hb.out) hlt
    obtain ⟨bk', ok', e', _, gz, _⟩ := intE_at (Hrk.out wo hb.out) (i := 0) (by omega)
    injection e' with e'
    injection e' with e1 e2 _
    subst e1 e2
    rw [Nat.add_zero] at gz
    have hap := Hap.out wo (bthen Hw9.out hb.out) k hlt
    have hab := fun w' (hx : Below wo.heap.size wo w') => Hab.out w' (bthen Hw9.out (bthen hb.out hx)) k hlt
    rw [show K[0] = K.getD 0 0 by rw [List.getD_eq_getElem?_getD, List.getElem?_eq_getElem (by omega)]; rfl] at gz
    have hgk := fun w' (hx : Below wo.heap.size wo w') => And.intro (cell_grow hx g0) (And.intro (cell_grow hx gz) (And.intro (cell_grow hx x0) (And.intro (cell_grow hx x1) (cell_grow hx x2))))
    have hkl := Hkl.out
    obtain ⟨X, hX⟩ : ∃ X, X = K[k] := ⟨_, rfl⟩
    obtain ⟨Z, hZ⟩ : ∃ Z, Z = K.getD 0 0 := ⟨_, rfl⟩
    simp only [← hX, ← hZ] at g0 gz hap hab hgk
    have Hap2 := Lib.hid hap; have Hab2 := Lib.hid hab; have Hgk := Lib.hid hgk; have Hb := Lib.hid hb.out
    clear hap hab hgk hX hZ hb hkl
    go_upto_region 12 with (go_at_call 31; (with_reducible refine (Hap2.out).mono ?_); rintro e w10 ⟨A10, c10, rfl, hr10, hb10, _⟩; have Hr10 := Lib.hid hr10; have Hb10 := Lib.hid hb10; clear hr10 hb10)
    (try simp only at Hr10 ⊢)
    (try simp only [List.length_singleton] at Hr10 ⊢)
    obtain ⟨w11, hw11⟩ : ∃ w11, w10.alloc (.cells #[.slice A10 1 c10, .string ⟨#[]⟩, .int .i64 0] 71) = w11 := ⟨_, rfl⟩
    have q11 : w11.heap[w10.heap.size]? = some (.cells #[.slice A10 1 c10, .string ⟨#[]⟩, .int .i64 0] 71 (0, 0)) := by rw [← hw11]; exact World.alloc_heap_new _ _
    have hb1011 : Below w10.heap.size w10 w11 := by rw [← hw11]; exact (Below.refl _ _).alloc (Nat.le_refl _) _
    obtain ⟨b10, o10, rfl, _, p0, _⟩ := intE_at (Hr10.out.below (intE_keeps _) hb1011 (Nat.le_refl _)) (i := 0) (by simp)
    have hbo11 := bthen Hb10.out hb1011
    obtain ⟨g1, gz1, y0, y1, y2⟩ := Hgk.out w11 hbo11
    have p1 : w11.cell? ⟨b10, o10, none⟩ = some (.int .i64 (tt : Int)) := by
     have := p0
     rw [Nat.add_zero] at this
     exact this
    obtain ⟨z0, z1, z2⟩ := ans_cells q11
    have hab3 := Hab2.out w11 hbo11
    rw [hw11]
    have Hab3 := Lib.hid hab3; have Hbo11 := Lib.hid hbo11
    have hgk2 := fun w' (hx : Below w11.heap.size w11 w') => And.intro (cell_grow hx p1) (And.intro (cell_grow hx z0) (And.intro (cell_grow hx z1) (cell_grow hx z2)))
    have Hgk2 := Lib.hid hgk2
    clear hw11 q11 hb1011 p0 hab3 hbo11 hgk2 Hr10 Hb10 Hap2 Hab2
    generalize w10.heap.size = N10 at *
    go_upto_region 13 with (go_at_call 31; (with_reducible refine (Hab3.out).mono ?_); rintro e w12 ⟨A12, c12, rfl, hr12, hb12, _⟩; have Hr12 := Lib.hid hr12; have Hb12 := Lib.hid hb12; clear hr12 hb12)
    (try simp only at Hr12 ⊢)
    (try simp only [List.length_singleton] at Hr12 ⊢)
    obtain ⟨w13, hw13⟩ : ∃ w13, w12.alloc (.cells #[.slice A12 1 c12, .string ⟨#[]⟩, .int .i64 0] 71) = w13 := ⟨_, rfl⟩
    have q13 : w13.heap[w12.heap.size]? = some (.cells #[.slice A12 1 c12, .string ⟨#[]⟩, .int .i64 0] 71 (0, 0)) := by rw [← hw13]; exact World.alloc_heap_new _ _
    have hb1213 : Below w12.heap.size w12 w13 := by rw [← hw13]; exact (Below.refl _ _).alloc (Nat.le_refl _) _
    obtain ⟨b12, o12, rfl, _, r0, _⟩ := intE_at (Hr12.out.below (intE_keeps _) hb1213 (Nat.le_refl _)) (i := 0) (by simp)
    have r1 : w13.cell? ⟨b12, o12, none⟩ = some (.int .i64 X) := by
     have := r0
     rw [Nat.add_zero] at this
     exact this
    have hb1113 := bthen Hb12.out hb1213
    obtain ⟨s0, s1, s2, s3⟩ := Hgk2.out w13 hb1113
    obtain ⟨m0, m1, m2, m3, m4⟩ := Hgk.out w13 (bthen Hbo11.out hb1113)
    obtain ⟨n0, n1, n2⟩ := ans_cells q13
    rw [hw13]
    have HBX := Lib.hid (bthen Hb.out (bthen Hbo11.out hb1113))
    clear hw13 q13 hb1213 r0 hb1113 Hr12 Hb12 Hgk Hgk2 Hab3 Hb Hbo11 g0 gz x0 x1 x2 g1 gz1 y0 y1 y2 p1 z0 z1 z2
    generalize w12.heap.size = N12 at *
    go_region
    go_wp2_with fail
    go_roundw
    case rel => exact ⟨k + 1, by omega, by go_num, Lib.hid (by first | exact HBX.out.drew | exact HBX.out)⟩
    case measure => simp [intOf]; omega
   ·obtain rfl : k = K.length := by omega
    go_wp2_with fail
    go_ret
    exact ⟨rfl, bthen Hb7.out (bthen Hw9.out hb.out)⟩
end Go.Proofs.YtmbhkkophkccbaaGreat.LSKid
end
section
namespace Go.Proofs.YtmbhkkophkccbaaGreat.snapKids
open Go.ChangeShapes Go.WideShapes Go.ChangeAt Go.RowKit
open Go.ChangeMaps (open_string shut_string)
set_option linter.unusedVariables false
theorem own : ownKnob Tryz.prog.godebug = none := by kernel_rfl
theorem laidOut : laidOutB Tryz.prog = true := by kernel_rfl
set_option maxRecDepth 100000 in
theorem lifted (os : Os) (started : os.Started) (H : Type) (enc : TypeId × Value → H) :
  ReturnsInHanded {} Tryz.checked os 6 .any (Rows.snapKidsSpec.pre6 enc Tryz.prog Tryz.f6 Rows.snapKidsRow.domain false) (Rows.snapKidsSpec.post enc Tryz.prog Tryz.f6 false true false false) := by
 refine returnsInHanded_of_change_sized (C := Tryz.checked) own started (by kernel_rfl) Tryz.func6
  (ChangeSpec.witness6 (enc := enc) (C := Tryz.checked) false ⟨#[], #[.slice none 0 0, .int .u8 0], []⟩ 8 (by kernel_rfl) (by kernel_rfl) (by kernel_rfl) (by kernel_rfl)) ?_
 intro W base args ds gs before hval0 hW hcnd hsz0 _
 have hsz : (DataW.weightsEach Tryz.prog (Tryz.f6.params.toList ++ Rows.snapKidsSpec.plain.varTypes Tryz.prog) (ds ++ gs)).all (· ≤ reachBytes) = true := hsz0
 have hval : ∀ (j : Nat) t v, Tryz.f6.params[j]? = some t → args[j]? = some v → Value.okWide Tryz.prog W .any base t v := hval0
 have hW' := hW
 obtain ⟨p, q, hA0, hV, rfl, hfz, hnd⟩ := hW
 have hA : DataW.TrodAll enc Tryz.prog W 0 (fun _ => true) true Tryz.f6.params.toList args.toList ds p := hA0
 rw [Tryz.params6] at hA hval hsz
 obtain ⟨v0, vs0, d0, ds0, p0, q0, hargs, rfl, rfl, h0, r0⟩ := trodAll_cons hA
 obtain ⟨v1, vs1, d1, ds1, p1, q1, rfl, rfl, rfl, h1, r1⟩ := trodAll_cons r0
 obtain ⟨rfl, rfl, rfl⟩ := trodAll_nil r1
 obtain rfl : args = #[v0, v1] := by cases args; simp_all
 obtain ⟨rfl, rfl⟩ := trodVars_none hV
 have k0 := h0
 have lt0 : ∀ x ∈ p0, x.block < W.heap.size := by obtain ⟨m, hm⟩ := k0; exact DataW.trod_lt m _ _ _ hm
 obtain ⟨l0, x0⟩ := Rd.open_list 6 Tryz.underlying22 (by kernel_rfl) (by decide) Shapes.opens_op_Op (hval 0 22 v0 rfl rfl) h0
 obtain ⟨a1, rfl, rfl, rfl, w1⟩ := open_int Tryz.underlying5 (hval 1 5 v1 rfl rfl) h1
 clear hA0 hval0 hsz0 hsz
 refine (LSKid.law_calls W l0 v0 x0 a1 w1).mono fun e W' ⟨he, bel⟩ => ?_
 subst he
 exact ⟨_, rfl, _, _, _, [], _, [], hW', trodAll_mk1 (shut_bool Tryz.underlying4 _), (trodAll_cons_mk (Below.trod laidOut (by kernel_rfl) (of_decide_eq_true (by kernel_rfl)) k0 bel lt0) (trodAll_cons_mk (shut_int Tryz.underlying5 w1) trodAll_mk0)), rfl, bel.frame _, fun h => by cases h⟩
set_option maxHeartbeats 20000000 in
theorem closed : joinedFacts Tryz.pinned.checked.prog 6 Tryz.f6 Rows.snapKidsSpec Rows.snapKidsRow = true := by
 unfold joinedFacts
 repeat' (with_reducible refine Bool.and_eq_true_iff.2 ⟨?_, ?_⟩)
 all_goals as_aux_lemma => kernel_rfl
theorem over : Rows.snapKidsRow.holds Tryz.pinned (OpenSpec.ofChange Rows.snapKidsSpec) :=
 OpenClaim.holds_of_wide 6 Tryz.f6 rfl rfl rfl rfl rfl rfl rfl ⟨rfl, rfl, rfl, rfl, rfl⟩ rfl rfl rfl rfl rfl (by kernel_rfl) Tryz.func6 closed
  (of_decide_eq_true (by kernel_rfl)) (by unfold Func.isWrapper; first | (rw [if_pos (by decide +kernel)]; kernel_rfl) | (rw [if_neg (by decide +kernel)]; exact ⟨rfl, rfl⟩))
  (fun os started H enc _ => lifted os started H enc)
theorem proved : Rows.SnapKidsSaid := over
end Go.Proofs.YtmbhkkophkccbaaGreat.snapKids
namespace Go.Proofs.YtmbhkkophkccbaaGreat
theorem snapKids_holds : Rows.SnapKidsSaid := snapKids.proved
#print axioms snapKids_holds
end Go.Proofs.YtmbhkkophkccbaaGreat
end
