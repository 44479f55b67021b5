/- ForestPrints. -/
import Derived.Test.YtbbompmpecblgaaLTops
namespace Go.Proofs.Ytbbompmpecblgaa.LPrints
open Go Go.RowKit Go.Proofs.Ytbbompmpecblgaa.Seq Go.Proofs.Ytbbompmpecblgaa.WS Go.Proofs.Ytbbompmpecblgaa.FS Go.Proofs.Ytbbompmpecblgaa.Mem Go.Proofs.Ytbbompmpecblgaa.Rd Go.Proofs.Ytbbompmpecblgaa.Shapes Go.Proofs.Ytbbompmpecblgaa.Word Go.Proofs.Ytbbompmpecblgaa.FFam Go.Proofs.Ytbbompmpecblgaa.LBnd
set_option linter.unusedVariables false
set_option linter.unusedSimpArgs false

theorem app_mk (a b : List UInt8) : (⟨a.toArray⟩ : ByteArray) ++ ⟨b.toArray⟩ = ⟨(a ++ b).toArray⟩ := by
  apply ByteArray.ext
  simp
theorem of_list {s : ByteArray} {l : List UInt8} (h : s.data.toList = l) : s = ⟨l.toArray⟩ := by
  apply ByteArray.ext
  apply Array.ext'
  rw [h]
/-- The parts of an element's print. -/
theorem elem_parts {n : Nd} {s : List UInt8} {T S E : ByteArray} (hk : n.kind = 1) (hT : T = ⟨(printN n s).toArray⟩) (hS : S = ⟨s.toArray⟩) (hE : E = S ++ ⟨#[60, 47]⟩ ++ n.name ++ ⟨#[62]⟩) :
    n.name.size + 1 + E.size ≤ T.size ∧ T.extract 0 (n.name.size + 1) = ⟨#[60]⟩ ++ n.name ∧ T.extract (T.size - E.size) T.size = E := by
  have hEd : E.data.toList = s ++ ([60, 47] ++ n.name.data.toList ++ [62]) := by
    rw [hE, Pr.app_bytes, Pr.app_bytes, Pr.app_bytes, hS]
    simp
  have hTd : T.data.toList = [60] ++ n.name.data.toList ++ (n.attrs.flatMap attrL ++ [62]) ++ E.data.toList := by
    rw [hT, hEd]
    simp [printN, hk, headL, tailL]
  have z1 := Lib.size_eq n.name
  have z2 := Lib.size_eq E
  have z3 := Lib.size_eq T
  rw [hTd] at z3
  simp only [List.length_append, List.length_cons, List.length_nil] at z3
  refine ⟨by omega, ?_, ?_⟩
  · rw [of_list (Lib.extract_data T 0 (n.name.size + 1)), hTd, List.drop_zero, Nat.sub_zero, List.append_assoc ([60] ++ n.name.data.toList), List.take_left' (by rw [List.length_append, List.length_singleton, z1]; omega), ← app_mk, ← of_list (s := n.name) rfl]
  · rw [of_list (Lib.extract_to_end T (T.size - E.size)), hTd, List.drop_left' (by simp only [List.length_append, List.length_cons, List.length_nil]; omega), ← of_list (s := E) rfl]
theorem sum_len {f : Fo} (hm : mayB f = true) : ∀ (l : List Int), (∀ k ∈ l, isNode f k = true) → (l.flatMap (printL f)).length ≤ l.length * 240000
  | [], _ => by simp
  | k :: l, h => by
    rw [List.flatMap_cons, List.length_append, List.length_cons, Nat.add_mul]
    have := print_small hm (h k (by simp))
    have := sum_len hm l (fun x hx => h x (by simp [hx]))
    omega
set_option maxRecDepth 100000 in
set_option maxHeartbeats 8000000 in
theorem law_calls (w : World) (f : Fo) (v : Value) (h : RdF w.heap.size w v f) : Calls Try.prog 10 #[v] w fun e w' => e = .returned (.bool true) ∧ Below w.heap.size w w' := by
  have hbn := bounded_calls w v f h
  obtain ⟨A0, c0, rfl, hl0, hc0, h'⟩ := h.form
  simp only [maxLen] at hc0
  have hrd := fun w' (hb : Below w.heap.size w w') => (h'.below nodeE_keeps (w' := w') hb (Nat.le_refl _)).mono nodeE_keeps hb.size
  cases hB : bndB f with
  | false =>
    rw [hB] at hbn
    have Hbn := Lib.hid hbn
    clear hbn h h' hrd
    go_enter Try.func10, Try.ntmps10
    go_wp2_with (first | (go_at_call 27; (with_reducible refine (Hbn.out).mono ?_); rintro e w5 ⟨rfl, rfl⟩) | (go_at_call 28; (with_reducible refine (LShown.shown_calls _).mono ?_); rintro e w6 ⟨rfl, hb6⟩; have Hb6 := Lib.hid hb6; clear hb6))
    go_ret
    exact ⟨rfl, Hb6.out⟩
  | true =>
    rw [hB] at hbn
    have hkm := bnd_kids hB
    have hmy := FMay.May_calls w _ f h hkm
    cases hm : mayB f with
    | false =>
      rw [hm] at hmy
      have Hbn := Lib.hid hbn; have Hmy := Lib.hid hmy
      clear hbn hmy h h' hrd hkm
      go_enter Try.func10, Try.ntmps10
      go_wp2_with (first | (go_at_call 27; (with_reducible refine (Hbn.out).mono ?_); rintro e w5 ⟨rfl, rfl⟩) | (go_at_call 32; (with_reducible refine (Hmy.out).mono ?_); rintro e w5 ⟨rfl, hb5⟩; have Hb5 := Lib.hid hb5; clear hb5) | (go_at_call 28; (with_reducible refine (LShown.shown_calls _).mono ?_); rintro e w6 ⟨rfl, hb6⟩; have Hb6 := Lib.hid hb6; clear hb6))
      go_ret
      exact ⟨rfl, bthen Hb5.out Hb6.out⟩
    | true =>
      rw [hm] at hmy
      have hpc := fun w' hb i => Pr.Print_calls w' _ f i (hrd w' hb) hkm
      have hlen := (may_len hm).2
      have Hbn := Lib.hid hbn; have Hmy := Lib.hid hmy; have Hpc := Lib.hid hpc; have Hm := Lib.hid hm; have Hrd := Lib.hid hrd; have Hkm := Lib.hid hkm
      clear hbn hmy h h' hrd hkm hpc hm hB
      go_enter Try.func10, Try.ntmps10
      go_wp2_with (first
        | (go_at_call 27; (with_reducible refine (Hbn.out).mono ?_); rintro e w5 ⟨rfl, rfl⟩)
        | (go_at_call 32; (with_reducible refine (Hmy.out).mono ?_); rintro e w5 ⟨rfl, hb5⟩; have Hb5 := Lib.hid hb5; clear hb5)
        | (go_at_call 28; (with_reducible refine (LShown.shown_calls _).mono ?_); rintro e w6 ⟨rfl, hb6⟩; have Hb6 := Lib.hid (bthen Hb5.out hb6); clear hb6))
      go_loopw [3] (fun i wr => ∃ k : Nat, k ≤ f.length ∧ i = .int .i64 k ∧ Below w.heap.size w wr) (fun i _ => f.length - (intOf i).toNat)
      case atStart => exact ⟨0, Nat.zero_le _, rfl, Hb6.out⟩
      case round =>
        obtain ⟨k, hk, rfl, hb⟩ := hrel
        have Hb := Lib.hid hb
        clear hb
        obtain ⟨wo, rfl⟩ : ∃ wo : World, wo = wr := ⟨_, rfl⟩
        by_cases hlt : k < f.length
        · have hn : isNode f (k : Int) = true := (node_iff _ _).2 ⟨by omega, by omega⟩
          obtain ⟨b, o, Aa, ca, Ak, ck, rfl, hbl, g0, g1, g2, g3, g4, g5, ra, rk, la, lca, lk, lck, m1, m2, m3, m4⟩ := node_at (Hrd.out w (Below.refl _ _)) hlt
          have hkk := Hkm.out f[k] (List.getElem_mem _)
          have hpe := printL_eq (may_family Hm.out) (may_climbs Hm.out) hn
          have hpf : printF f k = printL f k := by unfold printF; rw [if_pos ⟨Hm.out, hn⟩]
          have hkd := fun x hx => (fam_kids (may_family Hm.out) hn (k := x) hx).1
          have hpl := may_plain Hm.out hn
          have hroot : ((at_ f k).kind = 0) ↔ k = 0 := by
            have hm := Hm.out
            unfold mayB at hm
            simp only [Bool.and_eq_true] at hm
            have h1 := List.all_eq_true.1 hm.1.1.2 k (List.mem_range.2 hlt)
            simp only [Bool.and_eq_true] at h1
            simpa using h1.2
          rw [at_nat hlt] at hpe hkd hpl hroot
          generalize f[k] = n at *
          obtain ⟨kd, nm, tx, ats, par, kks⟩ := n
          simp only at *
          have G0 := Lib.hid (fun w' (hb : Below w.heap.size w w') => cell_below hb g0 hbl)
          have G1 := Lib.hid (fun w' (hb : Below w.heap.size w w') => cell_below hb g1 hbl)
          have G5 := Lib.hid (fun w' (hb : Below w.heap.size w w') => cell_below hb g5 hbl)
          have Rk := Lib.hid (fun w' (hb : Below w.heap.size w w') => (rk.below (intE_keeps _) (w' := w') hb (Nat.le_refl _)))
          have Hpe := Lib.hid hpe; have Hpf := Lib.hid hpf; have Hkd := Lib.hid hkd; have Hpl := Lib.hid hpl; have Hroot := Lib.hid hroot
          have p5 := G5.out wo Hb.out
          clear g0 g1 g2 g3 g4 g5 ra rk la lca lk lck m1 m2 m3 m4 hpe hpf hkd hpl hroot hn
          go_wp2_with fail
          go_loopw [4, 5] (fun a i wr => ∃ j : Nat, j ≤ kks.length ∧ i = .int .i64 j ∧ (∃ S : ByteArray, a = .string S ∧ S.size ≤ j * 240000 ∧ Hid (S = ⟨((kks.take j).flatMap (printL f)).toArray⟩)) ∧ Below w.heap.size w wr) (fun _ i _ => kks.length - (intOf i).toNat)
          case atStart => exact ⟨0, Nat.zero_le _, rfl, ⟨_, rfl, Nat.le_refl _, Lib.hid rfl⟩, Hb.out⟩
          case round =>
            obtain ⟨j, hj, rfl, ⟨S, rfl, hSz, hS⟩, hb2⟩ := hrel
            have Hb2 := Lib.hid hb2
            have p5' := G5.out wr hb2
            by_cases hjl : j < kks.length
            · obtain ⟨bk, ok, rfl, hbk, e1, _⟩ := intE_at (Rk.out wr hb2) hjl
              have hx := Hkd.out kks[j] (List.getElem_mem _)
              have hpx : printF f kks[j] = printL f kks[j] := by unfold printF; rw [if_pos ⟨Hm.out, hx⟩]
              have hpc := Hpc.out wr hb2 kks[j]
              rw [hpx] at hpc
              have hps := print_small Hm.out hx
              have htk : (kks.take (j + 1)).flatMap (printL f) = (kks.take j).flatMap (printL f) ++ printL f kks[j] := by rw [List.take_succ_eq_append_getElem hjl, List.flatMap_append]; simp
              generalize kks[j] = x at *
              obtain ⟨P, hP⟩ : ∃ P : ByteArray, P = ⟨(printL f x).toArray⟩ := ⟨_, rfl⟩
              rw [← hP] at hpc
              have hPz : P.size ≤ 240000 := by rw [hP]; exact hps
              have Hpc' := Lib.hid hpc; have Htk := Lib.hid htk; have HP := Lib.hid hP
              clear hpc htk hP hx hpx hps hb2
              go_wp2_with (go_at_call 35; (with_reducible refine (Hpc'.out).mono ?_); rintro e w9 ⟨rfl, hb9⟩; have Hb9 := Lib.hid (bthen Hb2.out hb9); clear hb9)
              go_roundw
              case rel => exact ⟨j + 1, by omega, by go_num, ⟨S ++ P, rfl, by rw [Pr.app_size, Nat.add_mul]; omega, Lib.hid (by rw [Htk.out, hS.out, HP.out, app_mk])⟩, Hb9.out⟩
              case measure => simp [intOf]; omega
            · obtain rfl : j = kks.length := by omega
              rw [List.take_length] at hS
              have hpc := Hpc.out wr hb2 k
              rw [Hpf.out, Hpe.out] at hpc
              have g0 := fun w' hb => G0.out w' hb
              have g1 := fun w' hb => G1.out w' hb
              have HG0 := Lib.hid (fun w' (hb : Below wr.heap.size wr w') => g0 w' (bthen hb2 hb)); have HG1 := Lib.hid (fun w' (hb : Below wr.heap.size wr w') => g1 w' (bthen hb2 hb))
              clear g0 g1
              have e0 : (kd == 0) = decide (kd = 0) := rfl
              have e1 : (kd == 1) = decide (kd = 1) := rfl
              by_cases hd0 : kd = 0
              · subst hd0
                have hT : (⟨(printN ⟨0, nm, tx, ats, par, kks⟩ (kks.flatMap (printL f))).toArray⟩ : ByteArray) = S := by rw [hS.out]; simp [printN]
                rw [hT] at hpc
                have Hpc' := Lib.hid hpc
                clear hpc hT e0 e1 hb2
                go_wp2_with (go_at_call 35; (with_reducible refine (Hpc'.out).mono ?_); rintro e w9 ⟨rfl, hb9⟩; have y0 := HG0.out _ hb9; have y1 := HG1.out _ hb9; have Hb9 := Lib.hid (bthen Hb2.out hb9); clear hb9)
                go_roundw
                case rel => exact ⟨k + 1, by omega, by go_num, Hb9.out⟩
                case measure => simp [intOf]; omega
              · by_cases hd1 : kd = 1
                · subst hd1
                  obtain ⟨T, hT⟩ : ∃ T : ByteArray, T = ⟨(printN ⟨1, nm, tx, ats, par, kks⟩ (kks.flatMap (printL f))).toArray⟩ := ⟨_, rfl⟩
                  rw [← hT] at hpc
                  have hnl : nm.size ≤ 20 := by
                    have h1 := Hpl.out
                    unfold plainB at h1
                    simp at h1
                    rw [Lib.size_eq]
                    exact (name_len h1.1.1).2
                  have hTz : T.size ≤ 240000 := by
                    have h1 := print_small Hm.out (show isNode f (k : Int) = true from (node_iff _ _).2 ⟨by omega, by omega⟩)
                    rw [Hpe.out] at h1
                    rw [hT]
                    exact h1
                  have hprt := fun E hE => elem_parts (n := ⟨1, nm, tx, ats, par, kks⟩) (E := E) rfl hT hS.out hE
                  have Hprt := Lib.hid hprt; have Hpc' := Lib.hid hpc
                  have hSz2 : S.size ≤ 240000000 := Nat.le_trans hSz (by have h1 := Nat.mul_le_mul_right 240000 hkk; omega)
                  clear hpc hb2 hT hprt e0 e1 hSz
                  go_upto_region 19 with (go_at_call 35; (with_reducible refine (Hpc'.out).mono ?_); rintro e w9 ⟨rfl, hb9⟩; have y0 := HG0.out _ hb9; have y1 := HG1.out _ hb9; have Hb9 := Lib.hid (bthen Hb2.out hb9); clear hb9)
                  obtain ⟨E, hE⟩ : ∃ E : ByteArray, E = S ++ ⟨#[60, 47]⟩ ++ nm ++ ⟨#[62]⟩ := ⟨_, rfl⟩
                  rw [← hE]
                  obtain ⟨q1, q2, q3⟩ := Hprt.out E hE
                  clear hE
                  have w1 : IntKind.i64.wrap ((nm.size : Int) + 1) = (nm.size : Int) + 1 := IntWalk.i64_in _ (by omega)
                  have w2 : IntKind.i64.wrap ((nm.size : Int) + 1 + E.size) = (nm.size : Int) + 1 + E.size := IntWalk.i64_in _ (by omega)
                  have w3 : IntKind.i64.wrap ((T.size : Int) - E.size) = (T.size : Int) - E.size := IntWalk.i64_in _ (by omega)
                  have n1 : ((nm.size : Int) + 1).toNat = nm.size + 1 := by omega
                  have n2 : ((T.size : Int) - E.size).toNat = T.size - E.size := by omega
                  have d1 : decide ((T.size : Int) < (nm.size : Int) + 1 + E.size) = false := decide_eq_false (by omega)
                  have d2 : (nm.size : Int) + 1 ≤ T.size := by omega
                  have d3 : (T.size : Int) - E.size ≤ T.size := by omega
                  have d4 : (0 : Int) ≤ (nm.size : Int) + 1 := by omega
                  have d5 : (0 : Int) ≤ (T.size : Int) - E.size := by omega
                  have d6 : (E.size : Int) ≤ T.size := by omega
                  have d7 : E.size ≤ T.size := by omega
                  have d8 : nm.size + 1 ≤ T.size := by omega
                  have d9 : ¬ (T.size : Int) < (nm.size : Int) + 1 + E.size := by omega
                  go_quiet (fail)
                  go_wp2_with fail
                  go_roundw
                  case rel => exact ⟨k + 1, by omega, by go_num, ReplR.drewN_below Hb9.out _⟩
                  case measure => simp [intOf]; omega
                · rw [decide_eq_false hd0] at e0
                  rw [decide_eq_false hd1] at e1
                  have Hpc' := Lib.hid hpc
                  clear hpc hb2
                  go_wp2_with (go_at_call 35; (with_reducible refine (Hpc'.out).mono ?_); rintro e w9 ⟨rfl, hb9⟩; have y0 := HG0.out _ hb9; have y1 := HG1.out _ hb9; have Hb9 := Lib.hid (bthen Hb2.out hb9); clear hb9)
                  go_roundw
                  case rel => exact ⟨k + 1, by omega, by go_num, Hb9.out⟩
                  case measure => simp [intOf]; omega
        · obtain rfl : k = f.length := by omega
          clear hlt
          go_wp2_with fail
          go_ret
          exact ⟨rfl, Hb.out⟩
end Go.Proofs.Ytbbompmpecblgaa.LPrints
