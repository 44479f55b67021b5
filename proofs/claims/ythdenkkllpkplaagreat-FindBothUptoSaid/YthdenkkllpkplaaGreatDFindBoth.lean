/- The law FindBoth answers true at every input, and each argument reads afterwards as it read before; no condition. -/
import Derived.Deep.RegionHeld3
import Derived.Test.YthdenkkllpkplaaGreatRows
import Derived.WalkKit
import Derived.ProofKit
import Derived.OpenShut
import Derived.ShutString
import Derived.ChangeOld
import Derived.Below
import Derived.SizedLaws
import Derived.Test.YthdenkkllpkplaaGreatC14
import Derived.Test.YthdenkkllpkplaaGreatC23
import Derived.Test.YthdenkkllpkplaaGreatC25
import Derived.Test.YthdenkkllpkplaaGreatC26
import Derived.Test.YthdenkkllpkplaaGreatC06
section
/- treillagelaw10.FindBoth, where the selectors are not too long. -/
namespace Go.Proofs.YthdenkkllpkplaaGreat.LBoth
open Go Go.RowKit Go.Proofs.YthdenkkllpkplaaGreat.Seq Go.Proofs.YthdenkkllpkplaaGreat.WS Go.Proofs.YthdenkkllpkplaaGreat.FS Go.Proofs.YthdenkkllpkplaaGreat.Mem Go.Proofs.YthdenkkllpkplaaGreat.Rd Go.Proofs.YthdenkkllpkplaaGreat.Shapes Go.Proofs.YthdenkkllpkplaaGreat.Word Go.Proofs.YthdenkkllpkplaaGreat.FFam Go.Proofs.YthdenkkllpkplaaGreat.Grown Go.Proofs.YthdenkkllpkplaaGreat.Fn Go.Proofs.YthdenkkllpkplaaGreat.Pa Go.Proofs.YthdenkkllpkplaaGreat.Fi
set_option linter.unusedVariables false
set_option linter.unusedSimpArgs false
theorem u8_nat' {a : Int} (h : (Lit.int .u8 a).wf = true) : ∃ n : Nat, a = n ∧ n ≤ 255 := by
  simp only [Lit.wf, Bool.and_eq_true, decide_eq_true_eq] at h
  have h0 : (0 : Int) ≤ a := h.1
  have h1 : a ≤ 255 := h.2
  exact ⟨a.toNat, by omega, by omega⟩
theorem rem_nat (a b : Nat) (hb : 0 < b) : (a : Int) % (b : Int) = ((a % b : Nat) : Int) ∧ Int.tmod (a : Int) (b : Int) = ((a % b : Nat) : Int) := by
  have h1 : (a : Int) % (b : Int) = ((a % b : Nat) : Int) := by omega
  exact ⟨h1, by rw [Int.tmod_eq_emod_of_nonneg (by omega)]; exact h1⟩
/-- The cells of a selector. -/
theorem sel_cells {B : Nat} {w : World} {A : Option Addr} {c : Nat} {l : Sel} (h : RdSel B w (.slice A l.length c) l) :
    ∃ xs : List Value, xs.length = l.length ∧ (∀ ad, A = some ad → ∀ j u, xs[j]? = some u → w.cell? (ad.add j) = some u) ∧ (∀ u ∈ xs, u.oneCell' = true) ∧ (A = none → l.length = 0) ∧ ∀ i (h1 : i < xs.length) (h2 : i < l.length), rowE B w [xs[i]] l[i] := by
  have key : ∀ k, k ≤ l.length → ∃ xs : List Value, xs.length = k ∧ (∀ ad, A = some ad → ∀ j u, xs[j]? = some u → w.cell? (ad.add j) = some u) ∧ (∀ u ∈ xs, u.oneCell' = true) ∧ ∀ i (h1 : i < xs.length) (h2 : i < l.length), rowE B w [xs[i]] l[i] := by
    intro k
    induction k with
    | zero => exact fun _ => ⟨[], rfl, fun ad _ j u hj => by simp at hj, fun u hu => (by cases hu), fun i h1 => absurd h1 (by simp)⟩
    | succ k ih =>
      intro hk
      obtain ⟨xs, h1, h2, h3, h4⟩ := ih (by omega)
      obtain ⟨b, o, At, ct, e, hb, r0, hr, _, _⟩ := row_at h (i := k) (by omega)
      refine ⟨xs ++ [.slice At l[k].length ct], by simp [h1], fun ad hA j u hj => ?_, fun u hu => ?_, fun i hi1 hi2 => ?_⟩
      · rw [hA] at e
        injection e with e
        subst e
        by_cases hj2 : j < xs.length
        · rw [List.getElem?_append_left hj2] at hj
          exact h2 _ hA j u hj
        · rw [List.getElem?_append_right (by omega)] at hj
          have hjk : j = k := by
            have := (List.getElem?_eq_some_iff.1 hj).1
            simp at this
            omega
          subst hjk
          rw [h1, Nat.sub_self] at hj
          simp only [List.getElem?_cons_zero, Option.some.injEq] at hj
          rw [Addr.add_lit, ← hj]
          exact r0
      · rw [List.mem_append, List.mem_singleton] at hu
        rcases hu with hu | rfl
        · exact h3 u hu
        · rfl
      · by_cases hi3 : i < xs.length
        · rw [List.getElem_append_left hi3]
          exact h4 i hi3 hi2
        · have : i = k := by simp at hi1; omega
          subst this
          rw [List.getElem_append_right (by omega)]
          simp only [h1, Nat.sub_self, List.getElem_cons_zero]
          exact ⟨_, rfl, hr⟩
  obtain ⟨xs, h1, h2, h3, h4⟩ := key l.length (Nat.le_refl _)
  refine ⟨xs, h1, h2, h3, fun hA => ?_, h4⟩
  cases l with
  | nil => rfl
  | cons r l =>
    obtain ⟨b, o, _, _, e, _⟩ := row_at h (i := 0) (by simp)
    rw [hA] at e
    cases e
theorem info_sel : (Tryz.prog.info? 77).map (fun i => (i.zero, i.size, i.bytes)) = some (some (.slice none 0 0), 1, 24) := by kernel_rfl
theorem smS_of {l : Sel} (h : fewB l = true) : SmS l := by
  unfold fewB smL at h
  rw [Bool.and_eq_true] at h
  intro r hr x hx t ht
  have h1 := List.all_eq_true.1 (List.all_eq_true.1 (List.all_eq_true.1 h.1 r hr) x hx) t ht
  unfold smT at h1
  rw [Bool.and_eq_true, decide_eq_true_eq] at h1
  omega
theorem sel_own {w w' : World} {base n : Nat} {v : Value} {xa xb : List Value} {a b : Sel} (hown : w'.ownsRow base 77 1 v n (xa ++ xb)) (hn : n = a.length + b.length) (h1 : xa.length = a.length) (h2 : xb.length = b.length)
    (ha : ∀ i (h1 : i < xa.length) (h2 : i < a.length), rowE w.heap.size w [xa[i]] a[i]) (hb : ∀ i (h1 : i < xb.length) (h2 : i < b.length), rowE w.heap.size w [xb[i]] b[i]) (hbl : Below w.heap.size w w') : RdSel w'.heap.size w' v (a ++ b) := by
  refine RdL.of_own hown (by rw [List.length_append, hn]) (fun g hg => (hown.lt g hg).2) (fun i hi => ?_)
  rw [List.length_append] at hi
  have hix : i < (xa ++ xb).length := by rw [List.length_append]; omega
  rw [Nat.mul_one, List.drop_eq_getElem_cons hix, List.take_succ_cons, List.take_zero]
  by_cases hia : i < a.length
  · rw [List.getElem_append_left (by omega), List.getElem_append_left hia]
    exact rowE_keeps _ _ _ _ _ _ (rowE_keeps _ _ _ _ _ _ (ha i (by omega) hia) hbl (Nat.le_refl _)) (Below.refl _ _) hbl.size
  · rw [List.getElem_append_right (by omega), List.getElem_append_right (by omega)]
    simp only [h1]
    exact rowE_keeps _ _ _ _ _ _ (rowE_keeps _ _ _ _ _ _ (hb (i - a.length) (by omega) (by omega)) hbl (Nat.le_refl _)) (Below.refl _ _) hbl.size
/-- The next one that is found. -/
theorem filter_at {O : List Int} {p : Int → Bool} {j : Nat} (hj : j < O.length) (hp : p O[j] = true) : ∃ h : ((O.take j).filter p).length < (O.filter p).length, (O.filter p)[((O.take j).filter p).length] = O[j] := by
  have e : O.filter p = (O.take j).filter p ++ O[j] :: (O.drop (j + 1)).filter p := by
    conv => lhs; rw [← List.take_append_drop j O, List.drop_eq_getElem_cons hj]
    rw [List.filter_append, List.filter_cons_of_pos hp]
  refine ⟨by rw [e]; simp, ?_⟩
  rw [List.getElem_of_eq e]
  simp
set_option maxRecDepth 100000 in
set_option maxHeartbeats 8000000 in
theorem law_calls (w : World) (l : List Opn) (v : Value) (h : RdO w.heap.size w v l) (a : Sel) (va : Value) (ha : RdSel w.heap.size w va a) (b : Sel) (vb : Value) (hb : RdSel w.heap.size w vb b) (t : Int) (ht : (Lit.int .u8 t).wf = true) (hla : a.length ≤ 1048576) (hlb : b.length ≤ 1048576) :
    Calls Tryz.prog 13 #[v, va, vb, .int .u8 t] w fun e w' => e = .returned (.bool true) ∧ Below w.heap.size w w' := by
  have hbn := Fi.bounded_calls w v l h
  have hgr := fun w' (hb : Below w.heap.size w w') => Fi.grown_calls w' v l ((h.below opE_keeps (w' := w') hb (Nat.le_refl _)).mono opE_keeps hb.size)
  unfold Fi.GrownPost at hgr
  have hfa := few_calls w _ _ ha
  have hfb := few_calls w _ _ hb
  have hra := fun w' (hb : Below w.heap.size w w') => (ha.below rowE_keeps (w' := w') hb (Nat.le_refl _)).mono rowE_keeps hb.size
  have hrb := fun w' (hx : Below w.heap.size w w') => (hb.below rowE_keeps (w' := w') hx (Nat.le_refl _)).mono rowE_keeps hx.size
  obtain ⟨A0, c0, rfl, hl0, hc0, _⟩ := h.form
  obtain ⟨Aa, ca, rfl, _, _, _⟩ := ha.form
  obtain ⟨Ab, cb, rfl, _, _, _⟩ := hb.form
  simp only [maxLen] at hc0
  obtain ⟨i0, hi0, hz0, hz1, hz2⟩ := info_parts info_sel
  have Hgr := Lib.hid hgr; have Hra := Lib.hid hra; have Hrb := Lib.hid hrb
  clear hgr hra hrb h ha hb
  by_cases hB : bndO l = true ∧ fewB a = true ∧ fewB b = true
  · obtain ⟨hB, hFa, hFb⟩ := hB
    rw [hB] at hbn
    rw [hFa] at hfa
    rw [hFb] at hfb
    have hm := grow_may l
    have hsm := Fi.grow_sm hB
    have hsa := smS_of hFa
    have hsb := smS_of hFb
    have hsab : SmS (a ++ b) := fun r hr => by
      rw [List.mem_append] at hr
      exact hr.elim (hsa r) (hsb r)
    obtain ⟨tn, rfl, htn⟩ := u8_nat' ht
    obtain ⟨f, hf⟩ : ∃ f, f = growF l := ⟨_, rfl⟩
    rw [← hf] at hm hsm
    have hgr' := Hgr.out
    simp only [← hf] at hgr'
    have hlen := may_len hm
    have Hbn := Lib.hid hbn; have Hfa := Lib.hid hfa; have Hfb := Lib.hid hfb; have Hg := Lib.hid hgr'; have Hm := Lib.hid hm; have Hsm := Lib.hid hsm; have Hsa := Lib.hid hsa; have Hsb := Lib.hid hsb; have Hsab := Lib.hid hsab
    clear hbn hfa hfb hgr' Hgr hm hsm hsa hsb hsab hB hFa hFb hf ht
    go_enter Tryz.func13, Tryz.ntmps13
    go_upto_region 4 with (first | (go_at_call 32; (with_reducible refine (Hbn.out).mono ?_); rintro e w5 ⟨rfl, rfl⟩) | (go_at_call 33; first | ((with_reducible refine (Hfa.out).mono ?_); rintro e w5 ⟨rfl, rfl⟩) | ((with_reducible refine (Hfb.out).mono ?_); rintro e w5 ⟨rfl, rfl⟩)) | (go_at_call 34; (with_reducible refine (Fi.shown_calls _).mono ?_); rintro e w6 ⟨rfl, hb6⟩; have Hb6 := Lib.hid hb6; clear hb6) | (go_at_call 35; (with_reducible refine (Hg.out _ Hb6.out).mono ?_); rintro e w7 ⟨v7, rfl, hr7, hb7⟩; have Hr7 := Lib.hid hr7; have Hb7 := Lib.hid (bthen Hb6.out hb7); clear hr7 hb7))
    obtain ⟨A7, c7, rfl, hl7, hc7, hr7⟩ := Hr7.out.form
    simp only [maxLen] at hc7
    have hrd := fun w' (hb : Below w7.heap.size w7 w') => (hr7.below nodeE_keeps (w' := w') hb (Nat.le_refl _)).mono nodeE_keeps hb.size
    obtain ⟨tt, htt⟩ : ∃ m, m = tn % f.length := ⟨_, rfl⟩
    have htt6 : tt < f.length := by rw [htt]; exact Nat.mod_lt _ (by omega)
    obtain ⟨u1, u2⟩ := rem_nat tn f.length (by omega)
    rw [← htt] at u1 u2
    have hq : ((f.length : Int) == 0) = false := by rw [beq_eq_false_iff_ne]; omega
    have hnode : isNode f (tt : Int) = true := nodeI htt6
    have hwt : (Lit.int .i64 (tt : Int)).wf = true := by
      simp only [Lit.wf, Bool.and_eq_true, decide_eq_true_eq]
      exact ⟨Int.le_trans (by decide) (Int.natCast_nonneg tt), Int.le_trans (show (tt : Int) ≤ 100 by omega) (by decide)⟩
    have hor := fun w' (hb : Below w7.heap.size w7 w') => Wk.Order_calls w' _ f (hrd w' hb) Hm.out (tt : Int) hwt
    unfold Wk.OrderPost at hor
    have hol := orderL_len Hm.out (tt : Int)
    have hall := fun w' (hb : Below w7.heap.size w7 w') u (hu : RdSel w'.heap.size w' u (a ++ b)) => All_calls w' _ f (hrd w' hb) Hm.out Hsm.out (tt : Int) hwt u (a ++ b) hu Hsab.out
    unfold allS at hall
    obtain ⟨O, hO⟩ : ∃ O, O = Wk.orderL f (tt : Int) := ⟨_, rfl⟩
    simp only [← hO] at hor hall hol
    obtain ⟨p, hp⟩ : ∃ p : Int → Bool, p = fun i => isS f i (a ++ b) := ⟨_, rfl⟩
    rw [← hp] at hall
    have hpx : ∀ x, p x = (isS f x a || isS f x b) := fun x => by rw [hp]; exact two_sel f x a b
    have Hor := Lib.hid hor; have Hall := Lib.hid hall; have Hrd := Lib.hid hrd; have Hpx := Lib.hid hpx
    clear hor hall hrd hO hp hpx htt hnode hwt hr7 Hr7
    obtain ⟨xa, xa1, xa2, xa3, xa4, xa5⟩ := sel_cells (Hra.out w7 Hb7.out)
    obtain ⟨xb, xb1, xb2, xb3, xb4, xb5⟩ := sel_cells (Hrb.out w7 Hb7.out)
    obtain ⟨w8, hw8⟩ : ∃ w8, w7.alloc (.cells #[] 77) = w8 := ⟨_, rfl⟩
    have hb8 : Below w7.heap.size w7 w8 := by rw [← hw8]; exact (Below.refl _ _).alloc (Nat.le_refl _) _
    have ho8 : w8.ownsRow w7.heap.size 77 1 (.slice (some ⟨w7.heap.size, 0, none⟩) 0 0) 0 [] := by rw [← hw8]; exact World.ownsRow_lit w7 #[] 0 (Nat.le_refl _) (by decide) rfl
    have Hw8 := Lib.hid hw8; have Hb8 := Lib.hid hb8; have Ho8 := Lib.hid ho8
    have Hxa2 := Lib.hid xa2; have Hxa3 := Lib.hid xa3; have Hxa4 := Lib.hid xa4; have Hxa5 := Lib.hid xa5; have Hxa1 := Lib.hid xa1
    have Hxb2 := Lib.hid xb2; have Hxb3 := Lib.hid xb3; have Hxb4 := Lib.hid xb4; have Hxb5 := Lib.hid xb5; have Hxb1 := Lib.hid xb1
    clear hw8 hb8 ho8 xa1 xa2 xa3 xa4 xa5 xb1 xb2 xb3 xb4 xb5
    go_upto_region 9 with (first | (rw [Hw8.out]; (at_builtin; go_loud (refine PlA.pl_any _ rfl _ _ 63 77 1 24 _ i0 rfl Tryz.underlying63 hi0 hz0 hz1 hz2 rfl (by decide) w7.heap.size (.slice (some ⟨w7.heap.size, 0, none⟩) 0 0) 0 [] Aa a.length ca xa (by simp [Act.eval]) Ho8.out (by simp [Act.eval]) Hxa4.out (by rw [Hxa1.out, Nat.mul_one]) (fun ad hA j u hj => cell_grow Hb8.out (Hxa2.out ad hA j u hj)) Hxa3.out (by simp only [maxLen]; omega) (by omega) Hb8.out.size ?_); intro v9 w9 hown9 hgrow9 hat9; rw [Nat.zero_add, List.nil_append] at hown9; obtain ⟨A9, c9, rfl⟩ := LShown.slice_of hown9; have Hb9 := Lib.hid (FTops.grown_below Hb8.out hgrow9 Ho8.out (Nat.le_refl _)); have Hown9 := Lib.hid hown9; clear hown9 hgrow9 hat9)) | (at_builtin; go_loud (refine PlA.pl_any _ rfl _ _ 63 77 1 24 _ i0 rfl Tryz.underlying63 hi0 hz0 hz1 hz2 rfl (by decide) w7.heap.size (.slice A9 a.length c9) a.length xa Ab b.length cb xb (by simp [Act.eval]) Hown9.out (by simp [Act.eval]) Hxb4.out (by rw [Hxb1.out, Nat.mul_one]) (fun ad hA j u hj => cell_grow Hb9.out (Hxb2.out ad hA j u hj)) Hxb3.out (by simp only [maxLen]; omega) (by omega) Hb9.out.size ?_); intro v10 w10 hown10 hgrow10 hat10; obtain ⟨A10, c10, rfl⟩ := LShown.slice_of hown10; have Hb10 := Lib.hid (FTops.grown_below Hb9.out hgrow10 Hown9.out (Nat.le_refl _)); have Hs10 := Lib.hid (sel_own hown10 rfl Hxa1.out Hxb1.out Hxa5.out Hxb5.out Hb10.out); clear hown10 hgrow10 hat10) | (go_at_call 37; (with_reducible refine (Hall.out _ Hb10.out _ Hs10.out).mono ?_); rintro e w11 ⟨v11, rfl, hr11, hb11⟩; have Hr11 := Lib.hid hr11; have Hb11 := Lib.hid (bthen Hb10.out hb11); clear hr11 hb11) | (go_at_call 48; (with_reducible refine (Hor.out _ Hb11.out).mono ?_); rintro e w12 ⟨v12, rfl, hr12, hb12⟩; have Hr12 := Lib.hid hr12; have Hb12 := Lib.hid hb12; clear hr12 hb12))
    obtain ⟨A11, c11, rfl, l11, m11, _⟩ := Hr11.out.form
    obtain ⟨A12, c12, rfl, l12, m12, _⟩ := Hr12.out.form
    simp only [maxLen] at m11 m12
    have hlb : (O.filter p).length ≤ O.length := List.length_filter_le _ _
    have Hup := Lib.hid (bthen Hb7.out (bthen Hb11.out Hb12.out))
    have hrd := fun w' (hb : Below w12.heap.size w12 w') => Hrd.out w' (bthen Hb11.out (bthen Hb12.out hb))
    have hia := fun w' (hb : Below w12.heap.size w12 w') (x : Int) => Is_calls w' _ f (hrd w' hb) Hm.out Hsm.out x _ a (Hra.out w' (bthen Hup.out hb)) Hsa.out
    have hib := fun w' (hb : Below w12.heap.size w12 w') (x : Int) => Is_calls w' _ f (hrd w' hb) Hm.out Hsm.out x _ b (Hrb.out w' (bthen Hup.out hb)) Hsb.out
    have Hia0 := Lib.hid hia; have Hib0 := Lib.hid hib
    clear hia hib hrd
    go_wp2_with fail
    go_loopw [14, 15] (fun u i wr => ∃ j : Nat, j ≤ O.length ∧ i = .int .i64 j ∧ u = .int .i64 ((O.take j).filter p).length ∧ Hid (Below w12.heap.size w12 wr)) (fun _ i _ => O.length - (intOf i).toNat)
    case atStart => exact ⟨0, Nat.zero_le _, rfl, rfl, Lib.hid (Below.refl _ _)⟩
    case round =>
      obtain ⟨j, hj, rfl, rfl, hb⟩ := hrel
      by_cases hlt : j < O.length
      · have hr12 := fun w' (hb : Below w12.heap.size w12 w') => intE_at (Hr12.out.below (intE_keeps _) (w' := w') hb (Nat.le_refl _)) hlt
        obtain ⟨bo, oo, rfl, _, g0, gw⟩ := hr12 wr hb.out
        have hg := fun w' (hx : Below wr.heap.size wr w') => (cell_grow hx g0 : w'.cell? ⟨bo, oo + j, none⟩ = _)
        have hts := filt_succ (p := p) hlt
        have htl := filt_le O p j
        have hfa2 := fun hp => filter_at (p := p) hlt hp
        have hpo := Hpx.out O[j]
        have hia := fun w' (hx : Below wr.heap.size wr w') => Hia0.out w' (bthen hb.out hx) O[j]
        have hib := fun w' (hx : Below wr.heap.size wr w') => Hib0.out w' (bthen hb.out hx) O[j]
        generalize O[j] = x at *
        cases hpa : isS f x a with
        | true =>
          simp only [hpa] at hia
          rw [hpa, Bool.true_or] at hpo
          clear hpa
          obtain ⟨hl2, hv2⟩ := hfa2 hpo
          obtain ⟨b11, o11, rfl, _, f0, _⟩ := intE_at (Hr11.out.below (intE_keeps _) (w' := wr) (bthen Hb12.out hb.out) (Nat.le_refl _)) hl2
          rw [hv2] at f0
          have hcl := fun w' (hx : Below wr.heap.size wr w') => (⟨cell_grow hx f0, cell_grow hx g0⟩ : w'.cell? ⟨b11, o11 + ((O.take j).filter p).length, none⟩ = _ ∧ w'.cell? ⟨bo, oo + j, none⟩ = _)
          rw [if_pos hpo] at hts
          have hln : ((O.take (j + 1)).filter p).length = ((O.take j).filter p).length + 1 := by rw [hts, List.length_append]; rfl
          obtain ⟨n, hn⟩ : ∃ n, n = ((O.take j).filter p).length := ⟨_, rfl⟩
          rw [← hn] at hln htl hl2 hcl ⊢
          have hq1 : (x == x) = true := by simp
          have hq2 : (x != x) = false := by simp
          have hq3 : ¬ (((O.filter p).length : Int) ≤ (n : Int)) := by omega
          have hq4 : decide (((O.filter p).length : Int) ≤ (n : Int)) = false := decide_eq_false hq3
          have hq5 : ¬ ((O.filter p).length ≤ n) := by omega
          have hq6 : decide ((O.filter p).length ≤ n) = false := decide_eq_false hq5
          have Hln := Lib.hid hln; have Hcl := Lib.hid hcl; have Hia := Lib.hid hia; have Hib := Lib.hid hib
          clear hln hcl hia hib hts hfa2 hpo hn hv2 f0 gw hr12 hg
          go_upto_region 14 with (go_at_call 43; first | ((with_reducible refine (Hia.out _ (Below.refl _ _)).mono ?_); rintro e w13 ⟨rfl, hb13⟩; obtain ⟨z0, z1⟩ := Hcl.out _ hb13; have Hb13 := Lib.hid hb13; clear hb13) | ((with_reducible refine (Hib.out _ Hb13.out).mono ?_); rintro e w14 ⟨rfl, hb14⟩; obtain ⟨z2, z3⟩ := Hcl.out _ (bthen Hb13.out hb14); have Hb14 := Lib.hid (bthen Hb13.out hb14); clear hb14))
          go_region_held3 (fun w' => w'.cell? ⟨b11, o11 + n, none⟩ = some (.int .i64 x) ∧ w'.cell? ⟨bo, oo + j, none⟩ = some (.int .i64 x)) (first | exact ⟨z2, z3⟩ | exact ⟨z0, z1⟩ | go_keep) ((fail))
          all_goals go_wp2_with fail
          all_goals
            go_roundw
            case rel => exact ⟨j + 1, by omega, by go_num, by rw [Hln.out]; go_num, Lib.hid (bthen hb.out Hb13.out.drew)⟩
            case measure => simp [intOf]; omega
        | false =>
          simp only [hpa] at hia
          rw [hpa, Bool.false_or] at hpo
          clear hpa
          cases hpb : isS f x b with
          | true =>
            simp only [hpb] at hib
            rw [hpb] at hpo
            clear hpb
            obtain ⟨hl2, hv2⟩ := hfa2 hpo
            obtain ⟨b11, o11, rfl, _, f0, _⟩ := intE_at (Hr11.out.below (intE_keeps _) (w' := wr) (bthen Hb12.out hb.out) (Nat.le_refl _)) hl2
            rw [hv2] at f0
            have hcl := fun w' (hx : Below wr.heap.size wr w') => (⟨cell_grow hx f0, cell_grow hx g0⟩ : w'.cell? ⟨b11, o11 + ((O.take j).filter p).length, none⟩ = _ ∧ w'.cell? ⟨bo, oo + j, none⟩ = _)
            rw [if_pos hpo] at hts
            have hln : ((O.take (j + 1)).filter p).length = ((O.take j).filter p).length + 1 := by rw [hts, List.length_append]; rfl
            obtain ⟨n, hn⟩ : ∃ n, n = ((O.take j).filter p).length := ⟨_, rfl⟩
            rw [← hn] at hln htl hl2 hcl ⊢
            have hq1 : (x == x) = true := by simp
            have hq2 : (x != x) = false := by simp
            have hq3 : ¬ (((O.filter p).length : Int) ≤ (n : Int)) := by omega
            have hq4 : decide (((O.filter p).length : Int) ≤ (n : Int)) = false := decide_eq_false hq3
            have hq5 : ¬ ((O.filter p).length ≤ n) := by omega
            have hq6 : decide ((O.filter p).length ≤ n) = false := decide_eq_false hq5
            have Hln := Lib.hid hln; have Hcl := Lib.hid hcl; have Hia := Lib.hid hia; have Hib := Lib.hid hib
            clear hln hcl hia hib hts hfa2 hpo hn hv2 f0 gw hr12 hg
            go_upto_region 14 with (go_at_call 43; first | ((with_reducible refine (Hia.out _ (Below.refl _ _)).mono ?_); rintro e w13 ⟨rfl, hb13⟩; obtain ⟨z0, z1⟩ := Hcl.out _ hb13; have Hb13 := Lib.hid hb13; clear hb13) | ((with_reducible refine (Hib.out _ Hb13.out).mono ?_); rintro e w14 ⟨rfl, hb14⟩; obtain ⟨z2, z3⟩ := Hcl.out _ (bthen Hb13.out hb14); have Hb14 := Lib.hid (bthen Hb13.out hb14); clear hb14))
            go_region_held3 (fun w' => w'.cell? ⟨b11, o11 + n, none⟩ = some (.int .i64 x) ∧ w'.cell? ⟨bo, oo + j, none⟩ = some (.int .i64 x)) (first | exact ⟨z2, z3⟩ | exact ⟨z0, z1⟩ | go_keep) ((fail))
            all_goals go_wp2_with fail
            all_goals
              go_roundw
              case rel => exact ⟨j + 1, by omega, by go_num, by rw [Hln.out]; go_num, Lib.hid (bthen hb.out Hb14.out.drew)⟩
              case measure => simp [intOf]; omega
          | false =>
            simp only [hpb] at hib
            rw [hpb] at hpo
            rw [if_neg (by rw [hpo]; decide), List.append_nil] at hts
            have Hts := Lib.hid hts; have Hia := Lib.hid hia; have Hib := Lib.hid hib; have Hg2 := Lib.hid hg
            clear hts hia hib hfa2 hpo hpb gw hr12 hg
            go_wp2_with (go_at_call 43; first | ((with_reducible refine (Hia.out _ (Below.refl _ _)).mono ?_); rintro e w13 ⟨rfl, hb13⟩; have z1 := Hg2.out _ hb13; have Hb13 := Lib.hid hb13; clear hb13) | ((with_reducible refine (Hib.out _ Hb13.out).mono ?_); rintro e w14 ⟨rfl, hb14⟩; have Hb14 := Lib.hid (bthen Hb13.out hb14); clear hb14))
            go_roundw
            case rel => exact ⟨j + 1, by omega, by go_num, by rw [Hts.out], Lib.hid (bthen hb.out Hb14.out)⟩
            case measure => simp [intOf]; omega
      · obtain rfl : j = O.length := by omega
        have hfin : (O.take O.length).filter p = O.filter p := by rw [List.take_length]
        rw [hfin]
        go_wp2_with fail
        go_ret
        exact ⟨ret_bool (by simp), bthen Hup.out hb.out⟩
  · have hno : bndO l = false ∨ (bndO l = true ∧ fewB a = false) ∨ (bndO l = true ∧ fewB a = true ∧ fewB b = false) := by
      cases h1 : bndO l <;> cases h2 : fewB a <;> cases h3 : fewB b <;> simp_all
    rcases hno with hx | ⟨hx, hy⟩ | ⟨hx, hy, hz⟩
    · rw [hx] at hbn
      have Hbn := Lib.hid hbn
      clear hbn hfa hfb hx hB
      go_enter Tryz.func13, Tryz.ntmps13
      go_wp2_with (first | (go_at_call 32; (with_reducible refine (Hbn.out).mono ?_); rintro e w5 ⟨rfl, rfl⟩) | (go_at_call 34; (with_reducible refine (Fi.shown_calls _).mono ?_); rintro e w6 ⟨rfl, hb6⟩; have Hb6 := Lib.hid hb6; clear hb6))
      go_ret
      exact ⟨rfl, Hb6.out⟩
    · rw [hx] at hbn
      rw [hy] at hfa
      have Hbn := Lib.hid hbn; have Hfa := Lib.hid hfa
      clear hbn hfa hfb hx hy hB
      go_enter Tryz.func13, Tryz.ntmps13
      go_wp2_with (first | (go_at_call 32; (with_reducible refine (Hbn.out).mono ?_); rintro e w5 ⟨rfl, rfl⟩) | (go_at_call 33; (with_reducible refine (Hfa.out).mono ?_); rintro e w5 ⟨rfl, rfl⟩) | (go_at_call 34; (with_reducible refine (Fi.shown_calls _).mono ?_); rintro e w6 ⟨rfl, hb6⟩; have Hb6 := Lib.hid hb6; clear hb6))
      go_ret
      exact ⟨rfl, Hb6.out⟩
    · rw [hx] at hbn
      rw [hy] at hfa
      rw [hz] at hfb
      have Hbn := Lib.hid hbn; have Hfa := Lib.hid hfa; have Hfb := Lib.hid hfb
      clear hbn hfa hfb hx hy hz hB
      go_enter Tryz.func13, Tryz.ntmps13
      go_wp2_with (first | (go_at_call 32; (with_reducible refine (Hbn.out).mono ?_); rintro e w5 ⟨rfl, rfl⟩) | (go_at_call 33; first | ((with_reducible refine (Hfa.out).mono ?_); rintro e w5 ⟨rfl, rfl⟩) | ((with_reducible refine (Hfb.out).mono ?_); rintro e w5 ⟨rfl, rfl⟩)) | (go_at_call 34; (with_reducible refine (Fi.shown_calls _).mono ?_); rintro e w6 ⟨rfl, hb6⟩; have Hb6 := Lib.hid hb6; clear hb6))
      go_ret
      exact ⟨rfl, Hb6.out⟩
end Go.Proofs.YthdenkkllpkplaaGreat.LBoth
end
section
/- The law FindBoth answers true at every input, and each argument reads afterwards as it read before; the condition: what comes in is of bulk at most 1048576. -/
namespace Go.Proofs.YthdenkkllpkplaaGreat.findBoth
open Go.ChangeShapes Go.WideShapes Go.ChangeAt Go.RowKit
open Go.ChangeMaps (open_string shut_string)
set_option linter.unusedVariables false
set_option linter.unusedSimpArgs false
theorem own : ownKnob Tryz.prog.godebug = none := by kernel_rfl
theorem laidOut : laidOutB Tryz.prog = true := by kernel_rfl
theorem bulk_len {H : Type} (l : List (DataW H)) : l.length ≤ Rows.uptoBulkAll l := by
  induction l with
  | nil => simp [Rows.uptoBulkAll]
  | cons x r ih =>
    have : 1 ≤ Rows.uptoBulk x := by cases x with
      | lit l => cases l <;> simp [Rows.uptoBulk]
      | _ => simp [Rows.uptoBulk]
    simp only [Rows.uptoBulkAll, List.length_cons]; omega
theorem len_le {H : Type} {enc : TypeId × Value → H} {P : Program} {w : World} {base : Nat} {spare : Nat → Bool} {held : Bool} {t e : TypeId} {A : Option Addr} {n c : Nat} {d : DataW H} {p : List MemPlace} (ht : P.underlying t = some (.slice e)) (h : DataW.Trod enc P w base spare held t (.slice A n c) d p) : n + 1 ≤ Rows.uptoBulk d := by
  obtain ⟨fuel, hf⟩ := h
  rcases Deep.open_slice ht hf with ⟨hc, hx⟩ | ⟨a, len, cap, m, nn, D, Pl, hc, _, _, _, _, hx, _⟩
  · simp [Value.cells] at hc
    injection hx with hx
    subst hx
    simp [Rows.uptoBulk]; omega
  · simp [Value.cells] at hc
    injection hx with hx
    subst hx
    have h1 := bulk_len ((List.range len).map D)
    rw [List.length_map, List.length_range] at h1
    simp only [Rows.uptoBulk]
    obtain ⟨_, rfl, _⟩ := hc
    omega
set_option maxRecDepth 100000 in
theorem contract (H : Type) (enc : TypeId × Value → H) (W : World) (base : Nat) (args : Array Value) (ds gs : List (DataW H)) (before : List MemPlace)
    (hval0 : ∀ (j : Nat) t v, Tryz.f13.params[j]? = some t → args[j]? = some v → Value.okWide Tryz.prog W .any base t v)
    (hW : DataW.Whole enc Tryz.prog Tryz.f13.params.toList Rows.findBothSpec.vars false W args.toList ds gs before) (hk0 : Rows.uptoSmall H (ds ++ gs) = true) :
    Calls Tryz.prog 13 args W fun e W' => ∃ v, e = .returned v ∧ Rows.findBothSpec.post enc Tryz.prog Tryz.f13 false true false false W args v W' := by
  have hk := hk0
  have hval : ∀ (j : Nat) t v, Tryz.f13.params[j]? = some t → args[j]? = some v → Value.okWide Tryz.prog W .any base t v := hval0
  have hW' := hW
  obtain ⟨p, q, hA0, hV, rfl, hfz, hnd⟩ := hW
  have hA : DataW.TrodAll enc Tryz.prog W 0 (fun _ => true) true Tryz.f13.params.toList args.toList ds p := hA0
  rw [Tryz.params13] at hA hval
  obtain ⟨v0, vs0, d0, ds0, p0, q0, hargs, rfl, rfl, h0, r0⟩ := trodAll_cons hA
  obtain ⟨v1, vs1, d1, ds1, p1, q1, rfl, rfl, rfl, h1, r1⟩ := trodAll_cons r0
  obtain ⟨v2, vs2, d2, ds2, p2, q2, rfl, rfl, rfl, h2, r2⟩ := trodAll_cons r1
  obtain ⟨v3, vs3, d3, ds3, p3, q3, rfl, rfl, rfl, h3, r3⟩ := trodAll_cons r2
  obtain ⟨rfl, rfl, rfl⟩ := trodAll_nil r3
  obtain rfl : args = #[v0, v1, v2, v3] := by cases args; simp_all
  obtain ⟨rfl, rfl⟩ := trodVars_none hV
  have k0 := h0
  have lt0 : ∀ x ∈ p0, x.block < W.heap.size := by obtain ⟨m, hm⟩ := k0; exact DataW.trod_lt m _ _ _ hm
  obtain ⟨l0, x0⟩ := Rd.open_list 6 Tryz.underlying22 (by kernel_rfl) (by decide) Shapes.opens_op_Op (hval 0 22 v0 rfl rfl) h0
  have k1 := h1
  have lt1 : ∀ x ∈ p1, x.block < W.heap.size := by obtain ⟨m, hm⟩ := k1; exact DataW.trod_lt m _ _ _ hm
  obtain ⟨l1, x1⟩ := Shapes.open_selU (hval 1 63 v1 rfl rfl) h1
  have k2 := h2
  have lt2 : ∀ x ∈ p2, x.block < W.heap.size := by obtain ⟨m, hm⟩ := k2; exact DataW.trod_lt m _ _ _ hm
  obtain ⟨l2, x2⟩ := Shapes.open_selU (hval 2 63 v2 rfl rfl) h2
  obtain ⟨a3, rfl, rfl, rfl, w3⟩ := open_int Tryz.underlying5 (hval 3 5 v3 rfl rfl) h3
  clear hA0 hval0
  refine (LBoth.law_calls W l0 v0 x0 l1 v1 x1 l2 v2 x2 a3 w3 (by have hb := of_decide_eq_true hk; simp only [List.cons_append, List.nil_append, List.append_nil, Rows.uptoBulkAll, Rows.uptoBulk] at hb; obtain ⟨A9, c9, e9, _⟩ := x1.form; have h9 := k1; rw [e9] at h9; have := len_le Tryz.underlying63 h9; omega) (by have hb := of_decide_eq_true hk; simp only [List.cons_append, List.nil_append, List.append_nil, Rows.uptoBulkAll, Rows.uptoBulk] at hb; obtain ⟨A9, c9, e9, _⟩ := x2.form; have h9 := k2; rw [e9] at h9; have := len_le Tryz.underlying63 h9; omega)).mono fun e W' ⟨he, bel⟩ => ?_
  subst he
  exact ⟨_, rfl, _, _, _, [], _, [], hW', trodAll_mk1 (shut_bool Tryz.underlying4 _), (trodAll_cons_mk (Below.trod laidOut (by kernel_rfl) (of_decide_eq_true (by kernel_rfl)) k0 bel lt0) (trodAll_cons_mk (Below.trod laidOut (by kernel_rfl) (of_decide_eq_true (by kernel_rfl)) k1 bel lt1) (trodAll_cons_mk (Below.trod laidOut (by kernel_rfl) (of_decide_eq_true (by kernel_rfl)) k2 bel lt2) (trodAll_cons_mk (shut_int Tryz.underlying5 w3) trodAll_mk0)))), rfl, bel.frame _, fun h => by cases h⟩
set_option maxRecDepth 100000 in
theorem lifted (os : Os) (started : os.Started) (H : Type) (enc : TypeId × Value → H) (F : Stop.Interp) :
    ReturnsInHanded {} Tryz.checked os 13 .any ((Rows.OpenSpec.upto Rows.findBothSpec).pre6 enc Tryz.prog Tryz.f13 Rows.findBothUptoRow.domain false) (((Rows.OpenSpec.upto Rows.findBothSpec).at F).post enc Tryz.prog Tryz.f13 false true false false) := by
  refine returnsInHanded_of_cond (C := Tryz.checked) (s := Rows.OpenSpec.upto Rows.findBothSpec) (k := Rows.uptoSmall) rfl own started (by kernel_rfl) Tryz.func13
    (OpenSpec.witness (enc := enc) (C := Tryz.checked) (s := Rows.OpenSpec.upto Rows.findBothSpec) (k := Rows.uptoSmall) rfl false ⟨#[], #[.slice none 0 0, .slice none 0 0, .slice none 0 0, .int .u8 0], []⟩ 8 (by kernel_rfl) (by kernel_rfl) (by kernel_rfl)
      (x := ([.nil, .nil, .nil, .lit (.int .u8 0)], [], [])) (by kernel_rfl) rfl (by kernel_rfl)) ?_
  intro W base args ds gs before hval hW _ hk _
  exact contract H enc W base args ds gs before hval hW hk
set_option maxHeartbeats 20000000 in
theorem closed : joinedFacts Tryz.pinned.checked.prog 13 Tryz.f13 (Rows.OpenSpec.upto Rows.findBothSpec).bare Rows.findBothUptoRow = true := by
  unfold joinedFacts
  repeat' (with_reducible refine Bool.and_eq_true_iff.2 ⟨?_, ?_⟩)
  all_goals as_aux_lemma => kernel_rfl
theorem over : Rows.findBothUptoRow.holds Tryz.pinned (Rows.OpenSpec.upto Rows.findBothSpec) :=
  OpenClaim.holds_of_cond 13 Tryz.f13 rfl rfl rfl rfl rfl rfl rfl ⟨rfl, rfl, rfl, rfl, rfl⟩ rfl rfl rfl rfl rfl (by kernel_rfl) Tryz.func13 closed
    (of_decide_eq_true (by kernel_rfl)) (by unfold Func.isWrapper; first | (rw [if_pos (by decide +kernel)]; kernel_rfl) | (rw [if_neg (by decide +kernel)]; exact ⟨rfl, rfl⟩))
    (fun os started H enc _ F => lifted os started H enc F)
theorem proved : Rows.FindBothUptoSaid := over
end Go.Proofs.YthdenkkllpkplaaGreat.findBoth
namespace Go.Proofs.YthdenkkllpkplaaGreat
/-- The row, under a short name, for the claim. -/
theorem findBothUpto_holds : Rows.FindBothUptoSaid := findBoth.proved
#print axioms findBothUpto_holds
end Go.Proofs.YthdenkkllpkplaaGreat
end
