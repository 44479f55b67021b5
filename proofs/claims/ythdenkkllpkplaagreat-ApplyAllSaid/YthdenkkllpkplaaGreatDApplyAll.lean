/- The law ApplyAll answers true at every input, and each argument reads afterwards as it read before; no condition. -/
import Derived.Test.YthdenkkllpkplaaGreatRows
import Derived.WalkKit
import Derived.ProofKit
import Derived.OpenShut
import Derived.ShutString
import Derived.ChangeOld
import Derived.Below
import Derived.SizedLaws
import Derived.Test.YthdenkkllpkplaaGreatC24
import Derived.Test.YthdenkkllpkplaaGreatC16
import Derived.Test.YthdenkkllpkplaaGreatC15
section
/- ApplyAll: of any operations all are done, or none, as the document says. -/
namespace Go.Proofs.YthdenkkllpkplaaGreat.LAll
open Go Go.RowKit Go.Proofs.YthdenkkllpkplaaGreat.Seq Go.Proofs.YthdenkkllpkplaaGreat.WS Go.Proofs.YthdenkkllpkplaaGreat.FS Go.Proofs.YthdenkkllpkplaaGreat.Mem Go.Proofs.YthdenkkllpkplaaGreat.Rd Go.Proofs.YthdenkkllpkplaaGreat.Shapes Go.Proofs.YthdenkkllpkplaaGreat.Word Go.Proofs.YthdenkkllpkplaaGreat.FFam Go.Proofs.YthdenkkllpkplaaGreat.OwnF Go.Proofs.YthdenkkllpkplaaGreat.Grown Go.Proofs.YthdenkkllpkplaaGreat.Ap
set_option linter.unusedVariables false
set_option linter.unusedSimpArgs false
set_option maxRecDepth 100000 in
set_option maxHeartbeats 8000000 in
theorem law_calls (w : World) (l : List Opn) (v : Value) (h : RdO w.heap.size w v l) (b : List Opn) (u : Value) (g : RdO w.heap.size w u b) :
    Calls Tryz.prog 5 #[v, u] w fun e w' => e = .returned (.bool true) ∧ Below w.heap.size w w' := by
  have hba := bounded_calls w v l h
  have hbb := bounded_calls w u b g
  have hra := fun w' (hb : Below w.heap.size w w') => (h.below opE_keeps (w' := w') hb (Nat.le_refl _)).mono opE_keeps hb.size
  have hrb := fun w' (hb : Below w.heap.size w w') => (g.below opE_keeps (w' := w') hb (Nat.le_refl _)).mono opE_keeps hb.size
  obtain ⟨A0, c0, rfl, hl0, hc0, _⟩ := h.form
  obtain ⟨A1, c1, rfl, hl1, hc1, _⟩ := g.form
  simp only [maxLen] at hc0 hc1
  have Hrd := Lib.hid hra; have Hrb := Lib.hid hrb
  clear h g hra hrb
  cases hA : bndO l with
  | false =>
    rw [hA] at hba
    have Hba := Lib.hid hba
    clear hba hbb hA
    go_enter Tryz.func5, Tryz.ntmps5
    go_wp2_with (first | (go_at_call 18; (with_reducible refine (Hba.out).mono ?_); rintro e w5 ⟨rfl, rfl⟩; clear Hba) | (go_at_call 19; (with_reducible refine (shown_calls _).mono ?_); rintro e w6 ⟨rfl, hb6⟩; have Hb6 := Lib.hid hb6; clear hb6))
    go_ret
    exact ⟨rfl, Hb6.out⟩
  | true =>
    cases hB : bndO b with
    | false =>
      rw [hA] at hba
      rw [hB] at hbb
      have Hba := Lib.hid hba; have Hbb := Lib.hid hbb
      clear hba hbb hA hB
      go_enter Tryz.func5, Tryz.ntmps5
      go_wp2_with (first | (go_at_call 18; (with_reducible refine (Hba.out).mono ?_); rintro e w5 ⟨rfl, rfl⟩; clear Hba) | (go_at_call 18; (with_reducible refine (Hbb.out).mono ?_); rintro e w5 ⟨rfl, rfl⟩; clear Hbb) | (go_at_call 19; (with_reducible refine (shown_calls _).mono ?_); rintro e w6 ⟨rfl, hb6⟩; have Hb6 := Lib.hid hb6; clear hb6))
      go_ret
      exact ⟨rfl, Hb6.out⟩
    | true =>
      have hla : l.length ≤ 150 := by unfold bndO at hA; rw [Bool.and_eq_true, decide_eq_true_eq] at hA; exact hA.2
      have hlb : b.length ≤ 150 := by unfold bndO at hB; rw [Bool.and_eq_true, decide_eq_true_eq] at hB; exact hB.2
      rw [hA] at hba
      rw [hB] at hbb
      have Hba := Lib.hid hba; have Hbb := Lib.hid hbb
      clear hba hbb hA hB
      go_enter Tryz.func5, Tryz.ntmps5
      go_upto_region 4 with (first | (go_at_call 18; (with_reducible refine (Hba.out).mono ?_); rintro e w5 ⟨rfl, rfl⟩; clear Hba) | (go_at_call 18; (with_reducible refine (Hbb.out).mono ?_); rintro e w5 ⟨rfl, rfl⟩; clear Hbb) | (go_at_call 19; (with_reducible refine (shown_calls _).mono ?_); rintro e w6 ⟨rfl, hb6⟩; have Hb6 := Lib.hid hb6; clear hb6) | (go_at_call 20; (with_reducible refine (FNew.New_calls _).mono ?_); rintro e w7 ⟨v7, rfl, hr7, hb7⟩; have Hr7 := Lib.hid hr7; have Hb7 := Lib.hid (bthen Hb6.out hb7); clear hr7 hb7))
      go_wp2_with fail
      go_loopw [5, 6] (fun v i wr => ∃ k : Nat, k ≤ l.length ∧ i = .int .i64 k ∧ RdF wr.heap.size wr v (growF (l.take k)) ∧ Below w.heap.size w wr) (fun _ i _ => l.length - (intOf i).toNat)
      case atStart => exact ⟨0, Nat.zero_le _, rfl, Hr7.out, Hb7.out⟩
      case round =>
        obtain ⟨k, hk, rfl, hr, hb⟩ := hrel
        have hmg := grow_may (l.take k)
        by_cases hlt : k < l.length
        · obtain ⟨b, o1, rfl, hbl, g0, g1, g2, g3, g4, g5, m1, m2, m3, m4⟩ := op_at (Hrd.out _ hb) hlt
          have hone := Doings.one_calls wr _ _ l[k] hr hmg m1 m2 m3 m4
          have hs : growF (l.take (k + 1)) = oneF (growF (l.take k)) l[k] := by rw [List.take_succ_eq_append_getElem hlt, grow_snoc]
          obtain ⟨A3, c3, rfl, _, _, _⟩ := hr.form
          have Hone := Lib.hid hone; have Hs := Lib.hid hs; have Hb := Lib.hid hb
          clear hone hs hb hr hmg m1 m2 m3 m4
          generalize l[k] = x at *
          go_wp2_with (go_at_call 21; ((with_reducible refine (Hone.out).mono ?_); rintro e w8 ⟨v8, rfl, hr8, hb8⟩; have Hr8 := Lib.hid hr8; have Hb8 := Lib.hid hb8; clear hr8 hb8))
          go_roundw
          case rel => exact ⟨k + 1, by omega, by go_num, by rw [Hs.out]; exact Hr8.out, bthen Hb.out Hb8.out⟩
          case measure => simp [intOf]; omega
        · have hl : growF (l.take k) = growF l := by rw [List.take_of_length_le (by omega)]
          rw [hl] at hr hmg
          obtain ⟨f, hf⟩ : ∃ f, f = growF l := ⟨_, rfl⟩
          rw [← hf] at hr hmg
          obtain rfl : k = l.length := by omega
          have hlen := may_len hmg
          obtain ⟨A7, c7, rfl, hl7, hc7, hr7⟩ := hr.form
          simp only [maxLen] at hc7
          obtain ⟨b7, o7, _, rfl, hb7lt, _⟩ := hr7.at_ (i := 0) (by omega)
          have Hm := Lib.hid hmg; have HR := Lib.hid hr7; have Hb := Lib.hid hb
          clear hl hf hmg hr hr7 hb hlt hk hb7lt Hrd Hr7 Hb7
          have hmg := Hm.out
          have han := R7.may_attrs hmg
          have hall := fun w' v (hb' : Below w.heap.size w w') (hr : RdF w'.heap.size w' v f) => All_calls w' v _ f b hr hmg (Hrb.out w' hb')
          have hall2 := fun w' v vl (hr : RdF w'.heap.size w' v f) (hl : RdO w'.heap.size w' vl b) => R7.All_calls w' v vl f b hr hmg hl
          unfold AllPost at hall hall2
          have hmK := allF_may hmg b
          have hlK := may_len hmK
          have hanK := R7.may_attrs hmK
          have hNle := allN_le b f
          have hNlt := allN_lt b f
          have hFno : allE f b ≠ 0 → allF f b = f := fun e => by unfold allF; rw [if_neg e]
          have hops := fun w' (hb' : Below w.heap.size w w') => Ops7.ops_calls w' _ b (Hrb.out w' hb') (by omega)
          generalize allF f b = G at *
          generalize allE f b = E at *
          generalize allN f b = N at *
          have hits := fun w' v (hr : RdF w'.heap.size w' v f) => Its7.its_calls w' v f hr (by omega) (fun n hn => by have := han n hn; omega)
          have hits2 := fun w' v (hr : RdF w'.heap.size w' v G) => Its7.its_calls w' v G hr (by omega) (fun n hn => by have := hanK n hn; omega)
          have hsame := fun w' v1 v2 (h1 : RdF w'.heap.size w' v1 G) (h2 : RdF w'.heap.size w' v2 G) => FSameR.RefSame_calls w' v1 v2 G G h1 h2
          have hsame2 := fun w' v1 v2 (h1 : RdF w'.heap.size w' v1 f) (h2 : RdF w'.heap.size w' v2 f) => FSameR.RefSame_calls w' v1 v2 f f h1 h2
          rw [decide_eq_true rfl] at hsame hsame2
          have hsm := fun w' v1 v2 (h1 : RdF w'.heap.size w' v1 G) (h2 : RdF w'.heap.size w' v2 f) => FSameF.Same_calls w' v1 v2 G f h1 h2
          have Hall := Lib.hid hall; have Hall2 := Lib.hid hall2; have Hits := Lib.hid hits; have Hits2 := Lib.hid hits2; have Hsame := Lib.hid hsame; have Hsame2 := Lib.hid hsame2; have Hops := Lib.hid hops
          have hr0 := HR.out
          have Hr0 := Lib.hid hr0
          clear hall hall2 hits hits2 hsame hsame2 hmg han hanK hmK hops hr0 Hm HR
          by_cases he : E = 0
          · have q1 : (E == E) = true := beq_self_eq_true E
            have q2 : (E == 0) = true := by rw [beq_iff_eq]; exact he
            clear hsm hFno hNlt he
            go_upto_region 11 with (first | (go_at_call 26; ((with_reducible refine (Hits.out _ _ Hr0.out).mono ?_); rintro e x1 ⟨u1, rfl, hr, hb⟩; have Hw1 := Lib.hid hr.rd; have Hf1 := Lib.hid ((Hr0.out.below nodeE_keeps hb (Nat.le_refl _)).mono nodeE_keeps hb.size); have Hb1 := Lib.hid (bthen Hb.out hb); clear hr hb)) | (go_at_call 29; ((with_reducible refine (Hall.out _ _ Hb1.out Hf1.out).mono ?_); rintro e x2 ⟨u2, rfl, hr, hb⟩; have Hg2 := Lib.hid hr; have Hf2 := Lib.hid ((Hf1.out.below nodeE_keeps hb (Nat.le_refl _)).mono nodeE_keeps hb.size); have Hw2 := Lib.hid ((Hw1.out.below nodeE_keeps hb (Nat.le_refl _)).mono nodeE_keeps hb.size); have Hb2 := Lib.hid (bthen Hb1.out hb); clear hr hb)) | (go_at_call 31; ((with_reducible refine (Hops.out _ Hb2.out).mono ?_); rintro e x3 ⟨u3, rfl, hr, hb⟩; have Ho3 := Lib.hid hr; have Hf3 := Lib.hid ((Hf2.out.below nodeE_keeps hb (Nat.le_refl _)).mono nodeE_keeps hb.size); have Hw3 := Lib.hid ((Hw2.out.below nodeE_keeps hb (Nat.le_refl _)).mono nodeE_keeps hb.size); have Hg3 := Lib.hid ((Hg2.out.below nodeE_keeps hb (Nat.le_refl _)).mono nodeE_keeps hb.size); have Hb3 := Lib.hid (bthen Hb2.out hb); clear hr hb)) | (go_at_call 30; ((with_reducible refine (Hall2.out _ _ _ Hw3.out Ho3.out).mono ?_); rintro e x4 ⟨u4, rfl, hr, hb⟩; have Hr4 := Lib.hid hr; have Hf4 := Lib.hid ((Hf3.out.below nodeE_keeps hb (Nat.le_refl _)).mono nodeE_keeps hb.size); have Hw4 := Lib.hid ((Hw3.out.below nodeE_keeps hb (Nat.le_refl _)).mono nodeE_keeps hb.size); have Hg4 := Lib.hid ((Hg3.out.below nodeE_keeps hb (Nat.le_refl _)).mono nodeE_keeps hb.size); have Hb4 := Lib.hid (bthen Hb3.out hb); clear hr hb)))
            obtain ⟨Ag, cg, rfl, _, _, _⟩ := Hg4.out.form
            go_wp2_with (first | (go_at_call 26; ((with_reducible refine (Hits2.out _ _ Hg4.out).mono ?_); rintro e x5 ⟨u5, rfl, hr, hb⟩; have Hi5 := Lib.hid hr.rd; have Hf5 := Lib.hid ((Hf4.out.below nodeE_keeps hb (Nat.le_refl _)).mono nodeE_keeps hb.size); have Hw5 := Lib.hid ((Hw4.out.below nodeE_keeps hb (Nat.le_refl _)).mono nodeE_keeps hb.size); have Hg5 := Lib.hid ((Hg4.out.below nodeE_keeps hb (Nat.le_refl _)).mono nodeE_keeps hb.size); have Hr5 := Lib.hid ((Hr4.out.below nodeE_keeps hb (Nat.le_refl _)).mono nodeE_keeps hb.size); have Hb5 := Lib.hid (bthen Hb4.out hb); clear hr hb)) | (go_at_call 25; ((with_reducible refine (Hsame.out _ _ _ Hi5.out Hr5.out).mono ?_); rintro e x6 ⟨rfl, hb⟩; have Hf6 := Lib.hid ((Hf5.out.below nodeE_keeps hb (Nat.le_refl _)).mono nodeE_keeps hb.size); have Hw6 := Lib.hid ((Hw5.out.below nodeE_keeps hb (Nat.le_refl _)).mono nodeE_keeps hb.size); have Hg6 := Lib.hid ((Hg5.out.below nodeE_keeps hb (Nat.le_refl _)).mono nodeE_keeps hb.size); have Hb6' := Lib.hid (bthen Hb5.out hb); clear hb Hi5 Hr5 Hits2)) | (go_at_call 26; ((with_reducible refine (Hits.out _ _ Hf6.out).mono ?_); rintro e x7 ⟨u7, rfl, hr, hb⟩; have Hi7 := Lib.hid hr.rd; have Hf7 := Lib.hid ((Hf6.out.below nodeE_keeps hb (Nat.le_refl _)).mono nodeE_keeps hb.size); have Hw7 := Lib.hid ((Hw6.out.below nodeE_keeps hb (Nat.le_refl _)).mono nodeE_keeps hb.size); have Hg7 := Lib.hid ((Hg6.out.below nodeE_keeps hb (Nat.le_refl _)).mono nodeE_keeps hb.size); have Hb7' := Lib.hid (bthen Hb6'.out hb); clear hr hb)) | (go_at_call 25; ((with_reducible refine (Hsame2.out _ _ _ Hi7.out Hw7.out).mono ?_); rintro e x8 ⟨rfl, hb⟩; have Hf8 := Lib.hid ((Hf7.out.below nodeE_keeps hb (Nat.le_refl _)).mono nodeE_keeps hb.size); have Hg8 := Lib.hid ((Hg7.out.below nodeE_keeps hb (Nat.le_refl _)).mono nodeE_keeps hb.size); have Hz := Lib.hid (bthen Hb7'.out hb); clear hb Hi7)))
            go_ret
            exact ⟨rfl, Hz.out⟩
          · have q1 : (E == E) = true := beq_self_eq_true E
            have q2 : (E == 0) = false := by rw [beq_eq_false_iff_ne]; exact he
            have hN2 := hNlt he
            have q3 : (N : Int) < (b.length : Int) := by omega
            rw [decide_eq_true (hFno he)] at hsm
            have Hsm := Lib.hid hsm
            clear hsm hFno hNlt he hN2
            go_upto_region 11 with (first | (go_at_call 26; ((with_reducible refine (Hits.out _ _ Hr0.out).mono ?_); rintro e x1 ⟨u1, rfl, hr, hb⟩; have Hw1 := Lib.hid hr.rd; have Hf1 := Lib.hid ((Hr0.out.below nodeE_keeps hb (Nat.le_refl _)).mono nodeE_keeps hb.size); have Hb1 := Lib.hid (bthen Hb.out hb); clear hr hb)) | (go_at_call 29; ((with_reducible refine (Hall.out _ _ Hb1.out Hf1.out).mono ?_); rintro e x2 ⟨u2, rfl, hr, hb⟩; have Hg2 := Lib.hid hr; have Hf2 := Lib.hid ((Hf1.out.below nodeE_keeps hb (Nat.le_refl _)).mono nodeE_keeps hb.size); have Hw2 := Lib.hid ((Hw1.out.below nodeE_keeps hb (Nat.le_refl _)).mono nodeE_keeps hb.size); have Hb2 := Lib.hid (bthen Hb1.out hb); clear hr hb)) | (go_at_call 31; ((with_reducible refine (Hops.out _ Hb2.out).mono ?_); rintro e x3 ⟨u3, rfl, hr, hb⟩; have Ho3 := Lib.hid hr; have Hf3 := Lib.hid ((Hf2.out.below nodeE_keeps hb (Nat.le_refl _)).mono nodeE_keeps hb.size); have Hw3 := Lib.hid ((Hw2.out.below nodeE_keeps hb (Nat.le_refl _)).mono nodeE_keeps hb.size); have Hg3 := Lib.hid ((Hg2.out.below nodeE_keeps hb (Nat.le_refl _)).mono nodeE_keeps hb.size); have Hb3 := Lib.hid (bthen Hb2.out hb); clear hr hb)) | (go_at_call 30; ((with_reducible refine (Hall2.out _ _ _ Hw3.out Ho3.out).mono ?_); rintro e x4 ⟨u4, rfl, hr, hb⟩; have Hr4 := Lib.hid hr; have Hf4 := Lib.hid ((Hf3.out.below nodeE_keeps hb (Nat.le_refl _)).mono nodeE_keeps hb.size); have Hw4 := Lib.hid ((Hw3.out.below nodeE_keeps hb (Nat.le_refl _)).mono nodeE_keeps hb.size); have Hg4 := Lib.hid ((Hg3.out.below nodeE_keeps hb (Nat.le_refl _)).mono nodeE_keeps hb.size); have Hb4 := Lib.hid (bthen Hb3.out hb); clear hr hb)))
            obtain ⟨Ag, cg, rfl, _, _, _⟩ := Hg4.out.form
            go_wp2_with (first | (go_at_call 26; ((with_reducible refine (Hits2.out _ _ Hg4.out).mono ?_); rintro e x5 ⟨u5, rfl, hr, hb⟩; have Hi5 := Lib.hid hr.rd; have Hf5 := Lib.hid ((Hf4.out.below nodeE_keeps hb (Nat.le_refl _)).mono nodeE_keeps hb.size); have Hw5 := Lib.hid ((Hw4.out.below nodeE_keeps hb (Nat.le_refl _)).mono nodeE_keeps hb.size); have Hg5 := Lib.hid ((Hg4.out.below nodeE_keeps hb (Nat.le_refl _)).mono nodeE_keeps hb.size); have Hr5 := Lib.hid ((Hr4.out.below nodeE_keeps hb (Nat.le_refl _)).mono nodeE_keeps hb.size); have Hb5 := Lib.hid (bthen Hb4.out hb); clear hr hb)) | (go_at_call 25; ((with_reducible refine (Hsame.out _ _ _ Hi5.out Hr5.out).mono ?_); rintro e x6 ⟨rfl, hb⟩; have Hf6 := Lib.hid ((Hf5.out.below nodeE_keeps hb (Nat.le_refl _)).mono nodeE_keeps hb.size); have Hw6 := Lib.hid ((Hw5.out.below nodeE_keeps hb (Nat.le_refl _)).mono nodeE_keeps hb.size); have Hg6 := Lib.hid ((Hg5.out.below nodeE_keeps hb (Nat.le_refl _)).mono nodeE_keeps hb.size); have Hb6' := Lib.hid (bthen Hb5.out hb); clear hb Hi5 Hr5 Hits2)) | (go_at_call 26; ((with_reducible refine (Hits.out _ _ Hf6.out).mono ?_); rintro e x7 ⟨u7, rfl, hr, hb⟩; have Hi7 := Lib.hid hr.rd; have Hf7 := Lib.hid ((Hf6.out.below nodeE_keeps hb (Nat.le_refl _)).mono nodeE_keeps hb.size); have Hw7 := Lib.hid ((Hw6.out.below nodeE_keeps hb (Nat.le_refl _)).mono nodeE_keeps hb.size); have Hg7 := Lib.hid ((Hg6.out.below nodeE_keeps hb (Nat.le_refl _)).mono nodeE_keeps hb.size); have Hb7' := Lib.hid (bthen Hb6'.out hb); clear hr hb)) | (go_at_call 25; ((with_reducible refine (Hsame2.out _ _ _ Hi7.out Hw7.out).mono ?_); rintro e x8 ⟨rfl, hb⟩; have Hf8 := Lib.hid ((Hf7.out.below nodeE_keeps hb (Nat.le_refl _)).mono nodeE_keeps hb.size); have Hg8 := Lib.hid ((Hg7.out.below nodeE_keeps hb (Nat.le_refl _)).mono nodeE_keeps hb.size); have Hz := Lib.hid (bthen Hb7'.out hb); clear hb Hi7)) | (go_at_call 28; ((with_reducible refine (Hsm.out _ _ _ Hg8.out Hf8.out).mono ?_); rintro e x9 ⟨rfl, hb⟩; have Hz' := Hz; clear Hz; have Hz := Lib.hid (bthen Hz'.out hb); clear hb)))
            go_ret
            exact ⟨rfl, Hz.out⟩
end Go.Proofs.YthdenkkllpkplaaGreat.LAll
end
section
/- The law ApplyAll answers true at every input, and each argument reads afterwards as it read before; no condition. -/
namespace Go.Proofs.YthdenkkllpkplaaGreat.applyAll
open Go.ChangeShapes Go.WideShapes Go.ChangeAt Go.RowKit
open Go.ChangeMaps (open_string shut_string)
set_option linter.unusedVariables false
theorem own : ownKnob Tryz.prog.godebug = none := by kernel_rfl
theorem laidOut : laidOutB Tryz.prog = true := by kernel_rfl
set_option maxRecDepth 100000 in
theorem lifted (os : Os) (started : os.Started) (H : Type) (enc : TypeId × Value → H) :
    ReturnsInHanded {} Tryz.checked os 5 .any (Rows.applyAllSpec.pre6 enc Tryz.prog Tryz.f5 Rows.applyAllRow.domain false) (Rows.applyAllSpec.post enc Tryz.prog Tryz.f5 false true false false) := by
  refine returnsInHanded_of_change_sized (C := Tryz.checked) own started (by kernel_rfl) Tryz.func5
    (ChangeSpec.witness6 (enc := enc) (C := Tryz.checked) false ⟨#[], #[.slice none 0 0, .slice none 0 0], []⟩ 8 (by kernel_rfl) (by kernel_rfl) (by kernel_rfl) (by kernel_rfl)) ?_
  intro W base args ds gs before hval0 hW hcnd hsz0 _
  have hsz : (DataW.weightsEach Tryz.prog (Tryz.f5.params.toList ++ Rows.applyAllSpec.plain.varTypes Tryz.prog) (ds ++ gs)).all (· ≤ reachBytes) = true := hsz0
  have hval : ∀ (j : Nat) t v, Tryz.f5.params[j]? = some t → args[j]? = some v → Value.okWide Tryz.prog W .any base t v := hval0
  have hW' := hW
  obtain ⟨p, q, hA0, hV, rfl, hfz, hnd⟩ := hW
  have hA : DataW.TrodAll enc Tryz.prog W 0 (fun _ => true) true Tryz.f5.params.toList args.toList ds p := hA0
  rw [Tryz.params5] at hA hval hsz
  obtain ⟨v0, vs0, d0, ds0, p0, q0, hargs, rfl, rfl, h0, r0⟩ := trodAll_cons hA
  obtain ⟨v1, vs1, d1, ds1, p1, q1, rfl, rfl, rfl, h1, r1⟩ := trodAll_cons r0
  obtain ⟨rfl, rfl, rfl⟩ := trodAll_nil r1
  obtain rfl : args = #[v0, v1] := by cases args; simp_all
  obtain ⟨rfl, rfl⟩ := trodVars_none hV
  have k0 := h0
  have lt0 : ∀ x ∈ p0, x.block < W.heap.size := by obtain ⟨m, hm⟩ := k0; exact DataW.trod_lt m _ _ _ hm
  obtain ⟨l0, x0⟩ := Rd.open_list 6 Tryz.underlying22 (by kernel_rfl) (by decide) Shapes.opens_op_Op (hval 0 22 v0 rfl rfl) h0
  have k1 := h1
  have lt1 : ∀ x ∈ p1, x.block < W.heap.size := by obtain ⟨m, hm⟩ := k1; exact DataW.trod_lt m _ _ _ hm
  obtain ⟨l1, x1⟩ := Rd.open_list 6 Tryz.underlying22 (by kernel_rfl) (by decide) Shapes.opens_op_Op (hval 1 22 v1 rfl rfl) h1
  clear hA0 hval0 hsz0 hsz
  refine (LAll.law_calls W l0 v0 x0 l1 v1 x1).mono fun e W' ⟨he, bel⟩ => ?_
  subst he
  exact ⟨_, rfl, _, _, _, [], _, [], hW', trodAll_mk1 (shut_bool Tryz.underlying4 _), (trodAll_cons_mk (Below.trod laidOut (by kernel_rfl) (of_decide_eq_true (by kernel_rfl)) k0 bel lt0) (trodAll_cons_mk (Below.trod laidOut (by kernel_rfl) (of_decide_eq_true (by kernel_rfl)) k1 bel lt1) trodAll_mk0)), rfl, bel.frame _, fun h => by cases h⟩
set_option maxHeartbeats 20000000 in
theorem closed : joinedFacts Tryz.pinned.checked.prog 5 Tryz.f5 Rows.applyAllSpec Rows.applyAllRow = true := by
  unfold joinedFacts
  repeat' (with_reducible refine Bool.and_eq_true_iff.2 ⟨?_, ?_⟩)
  all_goals as_aux_lemma => kernel_rfl
theorem over : Rows.applyAllRow.holds Tryz.pinned (OpenSpec.ofChange Rows.applyAllSpec) :=
  OpenClaim.holds_of_wide 5 Tryz.f5 rfl rfl rfl rfl rfl rfl rfl ⟨rfl, rfl, rfl, rfl, rfl⟩ rfl rfl rfl rfl rfl (by kernel_rfl) Tryz.func5 closed
    (of_decide_eq_true (by kernel_rfl)) (by unfold Func.isWrapper; first | (rw [if_pos (by decide +kernel)]; kernel_rfl) | (rw [if_neg (by decide +kernel)]; exact ⟨rfl, rfl⟩))
    (fun os started H enc _ => lifted os started H enc)
theorem proved : Rows.ApplyAllSaid := over
end Go.Proofs.YthdenkkllpkplaaGreat.applyAll
namespace Go.Proofs.YthdenkkllpkplaaGreat
/-- The row, under a short name, for the claim. -/
theorem applyAll_holds : Rows.ApplyAllSaid := applyAll.proved
#print axioms applyAll_holds
end Go.Proofs.YthdenkkllpkplaaGreat
end
