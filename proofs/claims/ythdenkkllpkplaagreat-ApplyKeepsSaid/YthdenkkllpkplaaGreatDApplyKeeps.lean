/- The law ApplyKeeps answers true at every input, and each argument reads afterwards as it read before; no condition. -/
import Derived.Test.YthdenkkllpkplaaGreatRows
import Derived.WalkKit
import Derived.ProofKit
import Derived.OpenShut
import Derived.ShutString
import Derived.ChangeOld
import Derived.Below
import Derived.SizedLaws
import Derived.Test.YthdenkkllpkplaaGreatC15
import Derived.Test.YthdenkkllpkplaaGreatC16
section
/- ApplyKeeps. -/
namespace Go.Proofs.YthdenkkllpkplaaGreat.LKeeps
open Go Go.RowKit Go.Proofs.YthdenkkllpkplaaGreat.Seq Go.Proofs.YthdenkkllpkplaaGreat.WS Go.Proofs.YthdenkkllpkplaaGreat.FS Go.Proofs.YthdenkkllpkplaaGreat.Mem Go.Proofs.YthdenkkllpkplaaGreat.Rd Go.Proofs.YthdenkkllpkplaaGreat.Shapes Go.Proofs.YthdenkkllpkplaaGreat.Word Go.Proofs.YthdenkkllpkplaaGreat.FFam Go.Proofs.YthdenkkllpkplaaGreat.Grown Go.Proofs.YthdenkkllpkplaaGreat.Ap
set_option linter.unusedVariables false
set_option linter.unusedSimpArgs false

set_option maxRecDepth 100000 in
set_option maxHeartbeats 8000000 in
theorem law_calls (w : World) (l : List Opn) (v : Value) (h : RdO w.heap.size w v l) (o : Opn) (ho : OkO o) :
    Calls Tryz.prog 10 #[v, opV o] w fun e w' => e = .returned (.bool true) ∧ Below w.heap.size w w' := by
  obtain ⟨W0, hW0⟩ : ∃ W0, w.alloc (.cells #[.int .i64 o.kind, .int .i64 o.id, .int .i64 o.to, .int .i64 o.at_, .string o.name, .string o.text] 24) = W0 := ⟨_, rfl⟩
  have hrow : W0.heap[w.heap.size]? = some (.cells (OpMay.opRow o) 24 (0, 0)) := by rw [← hW0]; exact World.alloc_heap_new w _
  have hb0 : Below w.heap.size w W0 := by rw [← hW0]; exact (Below.refl _ _).alloc (Nat.le_refl _) _
  have hcell := fun w' (hb : Below W0.heap.size W0 w') => OpMay.op_cells ((hb.block w.heap.size (lt_heap hrow)).trans hrow)
  have hrd := fun w' (hb : Below W0.heap.size W0 w') => (h.below opE_keeps (w' := w') (bthen hb0 hb) (Nat.le_refl _)).mono opE_keeps (bthen hb0 hb).size
  have hbn := bounded_calls W0 v l (hrd W0 (Below.refl _ _))
  have hb1 : Below W0.heap.size W0 (W0.alloc (.cells #[.int .i64 o.kind, .int .i64 o.id, .int .i64 o.to, .int .i64 o.at_, .string o.name, .string o.text] 24)) := (Below.refl _ _).alloc (Nat.le_refl _) _
  have hbo := bounded_calls (W0.alloc (.cells #[.int .i64 o.kind, .int .i64 o.id, .int .i64 o.to, .int .i64 o.at_, .string o.name, .string o.text] 24)) _ [o] (rd1 _ W0.heap.size o ho (World.alloc_heap_new _ _))
  obtain ⟨A0, c0, rfl, hl0, hc0, _⟩ := h.form
  simp only [maxLen] at hc0
  obtain ⟨z0, z1, z2, z3, z4, z5, zf⟩ := hcell W0 (Below.refl _ _)
  have HW0 := Lib.hid hW0; have HB0 := Lib.hid hb0; have Hcell := Lib.hid hcell; have Hrd := Lib.hid hrd; have HB1 := Lib.hid hb1; have Ho := Lib.hid ho
  clear hW0 hb0 hcell hrd h hrow hb1 ho
  cases hB : bndO l with
  | false =>
    rw [hB] at hbn
    have Hbn := Lib.hid hbn
    clear hbn hbo hB
    go_enter Tryz.func10, Tryz.ntmps10
    go_upto_region 1 with (fail)
    rw [HW0.out]
    go_wp2_with (first | (go_at_call 18; (with_reducible refine (Hbn.out).mono ?_); rintro e w5 ⟨rfl, rfl⟩; clear Hbn) | (go_at_call 19; (with_reducible refine (shown_calls _).mono ?_); rintro e w6 ⟨rfl, hb6⟩; have Hb6 := Lib.hid hb6; clear hb6))
    go_ret
    exact ⟨rfl, bthen HB0.out Hb6.out⟩
  | true =>
    cases hB2 : bndO [o] with
    | false =>
      rw [hB] at hbn
      rw [hB2] at hbo
      have Hbn := Lib.hid hbn; have Hbo := Lib.hid hbo
      clear hbn hbo hB hB2
      go_enter Tryz.func10, Tryz.ntmps10
      go_upto_region 1 with (fail)
      rw [HW0.out]
      go_wp2_with (first | (go_at_call 18; (with_reducible refine (Hbn.out).mono ?_); rintro e w5 ⟨rfl, rfl⟩; clear Hbn) | (go_at_call 18; (with_reducible refine (Hbo.out).mono ?_); rintro e w5 ⟨rfl, rfl⟩; clear Hbo) | (go_at_call 19; (with_reducible refine (shown_calls _).mono ?_); rintro e w6 ⟨rfl, hb6⟩; have Hb6 := Lib.hid (bthen HB1.out hb6); clear hb6))
      go_ret
      exact ⟨rfl, bthen HB0.out Hb6.out⟩
    | true =>
      rw [hB] at hbn
      rw [hB2] at hbo
      have Hbn := Lib.hid hbn; have Hbo := Lib.hid hbo
      clear hbn hbo hB hB2
      go_enter Tryz.func10, Tryz.ntmps10
      go_upto_region 1 with (fail)
      rw [HW0.out]
      go_upto_region 4 with (first | (go_at_call 18; (with_reducible refine (Hbn.out).mono ?_); rintro e w5 ⟨rfl, rfl⟩; clear Hbn) | (go_at_call 18; (with_reducible refine (Hbo.out).mono ?_); rintro e w5 ⟨rfl, rfl⟩; clear Hbo) | (go_at_call 19; (with_reducible refine (shown_calls _).mono ?_); rintro e w6 ⟨rfl, hb6⟩; have Hb6 := Lib.hid (bthen HB1.out hb6); clear hb6) | (go_at_call 20; (with_reducible refine (FNew.New_calls _).mono ?_); rintro e w7 ⟨v7, rfl, hr7, hb7⟩; have Hr7 := Lib.hid hr7; have Hb7 := Lib.hid (bthen Hb6.out hb7); clear hr7 hb7))
      clear z0 z1 z2 z3 z4 z5 zf
      go_wp2_with fail
      go_loopw [5, 6] (fun v i wr => ∃ k : Nat, k ≤ l.length ∧ i = .int .i64 k ∧ RdF wr.heap.size wr v (growF (l.take k)) ∧ Below W0.heap.size W0 wr) (fun _ i _ => l.length - (intOf i).toNat)
      case atStart => exact ⟨0, Nat.zero_le _, rfl, Hr7.out, Hb7.out⟩
      case round =>
        obtain ⟨k, hk, rfl, hr, hb⟩ := hrel
        have hmg := grow_may (l.take k)
        by_cases hlt : k < l.length
        · obtain ⟨b, o1, rfl, hbl, g0, g1, g2, g3, g4, g5, m1, m2, m3, m4⟩ := op_at (Hrd.out _ hb) hlt
          have hone := Doings.one_calls wr _ _ l[k] hr hmg m1 m2 m3 m4
          have hs : growF (l.take (k + 1)) = oneF (growF (l.take k)) l[k] := by rw [List.take_succ_eq_append_getElem hlt, grow_snoc]
          obtain ⟨A3, c3, rfl, _, _, _⟩ := hr.form
          have Hone := Lib.hid hone; have Hs := Lib.hid hs; have Hb := Lib.hid hb
          clear hone hs hb hr hmg m1 m2 m3 m4
          generalize l[k] = x at *
          go_wp2_with (go_at_call 21; ((with_reducible refine (Hone.out).mono ?_); rintro e w8 ⟨v8, rfl, hr8, hb8⟩; have Hr8 := Lib.hid hr8; have Hb8 := Lib.hid hb8; clear hr8 hb8))
          go_roundw
          case rel => exact ⟨k + 1, by omega, by go_num, by rw [Hs.out]; exact Hr8.out, bthen Hb.out Hb8.out⟩
          case measure => simp [intOf]; omega
        · have hl : growF (l.take k) = growF l := by rw [List.take_of_length_le (by omega)]
          rw [hl] at hr hmg
          obtain ⟨f, hf⟩ : ∃ f, f = growF l := ⟨_, rfl⟩
          rw [← hf] at hr hmg
          obtain rfl : k = l.length := by omega
          have hlen := may_len hmg
          obtain ⟨A7, c7, rfl, hl7, hc7, hr7⟩ := hr.form
          simp only [maxLen] at hc7
          obtain ⟨b7, o7, _, rfl, hb7lt, _⟩ := hr7.at_ (i := 0) (by omega)
          have Hm := Lib.hid hmg; have HR := Lib.hid hr7; have Hb := Lib.hid hb
          clear hl hf hmg hr hr7 hb hlt hk hb7lt Hrd Hr7 Hb7
          have hone := fun w' (hb : Below wr.heap.size wr w') => Doings.one_calls w' _ f o ((HR.out.below nodeE_keeps (w' := w') hb (Nat.le_refl _)).mono nodeE_keeps hb.size) Hm.out Ho.out.1 Ho.out.2.1 Ho.out.2.2.2.1 Ho.out.2.2.2.2.1
          unfold Doings.OnePost at hone
          have hcl := fun w' (hb : Below wr.heap.size wr w') => Hcell.out w' (bthen Hb.out hb)
          obtain ⟨z0, z1, z2, z3, z4, z5, zf⟩ := hcl wr (Below.refl _ _)
          by_cases he : oneE f o = 0
          · obtain ⟨q1, q2, q3⟩ := one_keeps Hm.out he
            have hmG := one_may Hm.out o
            obtain ⟨G, hG⟩ : ∃ G, G = oneF f o := ⟨_, rfl⟩
            rw [← hG] at hone q1 q2 q3 hmG
            rw [he] at hone
            have hGl := may_len hmG
            have hkn : 4 ≤ o.kind → ∃ n : Nat, o.id = n ∧ n < f.length := fun h4 => by
              obtain ⟨t, ht⟩ := checks_known (f := f) h4
              exact node_nat ((one_kinds he).2 (70, knownB f o) (by rw [ht]; simp))
            have Hone := Lib.hid hone; have Hcl := Lib.hid hcl; have Q3 := Lib.hid q3; have Hkn := Lib.hid hkn
            clear hone hcl q3 hmG hkn he hG
            go_upto_region 11 with (go_at_call 21; ((with_reducible refine (Hone.out _ (Below.refl _ _)).mono ?_); rintro e w9 ⟨v9, rfl, hr9, hb9⟩; obtain ⟨A9, c9, rfl, hl9, hc9, hr9'⟩ := hr9.form; have Hr9 := Lib.hid hr9'; have Hb9 := Lib.hid hb9; clear hr9 hr9' hb9))
            simp only [maxLen] at hc9
            obtain ⟨b9, o9, _, rfl, _⟩ := Hr9.out.at_ (i := 0) (by omega)
            have hcl9 := fun w' (hb : Below w9.heap.size w9 w') => Hcl.out w' (bthen Hb9.out hb)
            have hrf9 := fun w' (hb : Below w9.heap.size w9 w') => (HR.out.below nodeE_keeps (w' := w') (bthen Hb9.out hb) (Nat.le_refl _)).mono nodeE_keeps (bthen Hb9.out hb).size
            have hrg9 := fun w' (hb : Below w9.heap.size w9 w') => (Hr9.out.below nodeE_keeps (w' := w') hb (Nat.le_refl _)).mono nodeE_keeps hb.size
            have Hcl9 := Lib.hid hcl9; have Hrf9 := Lib.hid hrf9; have Hrg9 := Lib.hid hrg9
            clear z0 z1 z2 z3 z4 z5 zf hcl9 hrf9 hrg9 Hone Hcl
            go_wp2_with fail
            go_loopw [9] (fun i wr => ∃ k : Nat, k ≤ f.length ∧ i = .int .i64 k ∧ Below w9.heap.size w9 wr) (fun i _ => f.length - (intOf i).toNat)
            case atStart => exact ⟨0, Nat.zero_le _, rfl, Below.refl _ _⟩
            case round =>
              obtain ⟨k, hk, rfl, hb⟩ := hrel
              obtain ⟨wx, rfl⟩ : ∃ wx : World, wx = wr := ⟨_, rfl⟩
              by_cases hlt : k < f.length
              · have hltG : k < G.length := by omega
                obtain ⟨z0, z1, z2, z3, z4, z5, zf⟩ := Hcl9.out _ hb
                have hkI : (k : Int) < (f.length : Int) := by omega
                have hkG : (k : Int) < (G.length : Int) := by omega
                have hp1 : ¬ c7 = k := by omega
                have hp2 : ¬ c9 = k := by omega
                have hp3 : (k : Int) + 1 ≤ (c7 : Int) := by omega
                have hp5 : IntKind.i64.wrap ((k : Int) + 1) = (k : Int) + 1 := by rw [IntKind.wrap_i64]; omega
                have hp6 : (0 : Int) ≤ (k : Int) := by omega
                have hp7 : (0 : Int) ≤ (k : Int) + 1 := by omega
                have hp8 : (k : Int) ≤ (k : Int) + 1 := by omega
                have hp9 : ((k : Int) + 1).toNat - k = 1 := by omega
                have hp4 : (k : Int) + 1 ≤ (c9 : Int) := by omega
                have Hb' := Lib.hid hb
                have hsame : namedF f o k = false → ∀ w', Below wx.heap.size wx w' → Calls Tryz.prog 28 #[.slice (some ⟨b7, o7 + k * 6, none⟩) 1 (c7 - k), .slice (some ⟨b9, o9 + k * 6, none⟩) 1 (c9 - k)] w' fun e w'' => e = .returned (.bool true) ∧ Below wx.heap.size wx w'' := fun hN w' hb' => by
                  have r1 := (Hrf9.out _ (bthen hb hb')).part (i := k) (m := 1) (by omega)
                  have r2 := (Hrg9.out _ (bthen hb hb')).part (i := k) (m := 1) (by omega)
                  rw [part_one hlt] at r1
                  rw [part_one hltG] at r2
                  have := FSameF.Same_calls w' _ _ [f[k]] [G[k]] r1 r2
                  rw [decide_eq_true (by rw [← atN hlt, ← atN hltG, Q3.out k hlt hN])] at this
                  exact this.mono (fun e w'' hx => ⟨hx.1, bthen hb' hx.2⟩)
                have hN : ∀ b, namedF f o k = b → b = namedF f o k := fun _ h => h.symm
                have hNd : namedF f o k = (decide (4 ≤ o.kind) && (((k : Int) == o.id) || (o.kind == 4 && ((k : Int) == o.to))) || (decide (4 ≤ o.kind) && (isNode f o.id && (at_ f o.id).parent == (k : Int)))) := by
                  unfold namedF
                  rw [Bool.beq_comm (a := o.id), Bool.beq_comm (a := o.to)]
                  cases decide (4 ≤ o.kind) <;> simp
                obtain ⟨B1, hB1⟩ : ∃ B1, B1 = (decide (4 ≤ o.kind) && (((k : Int) == o.id) || (o.kind == 4 && ((k : Int) == o.to)))) := ⟨_, rfl⟩
                obtain ⟨B2, hB2⟩ : ∃ B2, B2 = (decide (4 ≤ o.kind) && (isNode f o.id && (at_ f o.id).parent == (k : Int))) := ⟨_, rfl⟩
                rw [← hB1, ← hB2] at hNd
                have HB1' := Lib.hid hB1; have HB2' := Lib.hid hB2; have HNd := Lib.hid hNd; have Hsm := Lib.hid hsame
                have hp10 := Lib.hid (And.intro hp1 (And.intro hp2 (And.intro hp3 (And.intro hp4 (And.intro hp5 (And.intro hp6 (And.intro hp7 (And.intro hp8 hp9))))))))
                clear hN hb hB1 hB2 hNd hsame hp1 hp2 hp3 hp4 hp5 hp6 hp7 hp8 hp9
                go_upto_region 14 with fail
                go_cut [10] (fun a wy => a = .bool B1 ∧ wy = wx)
                case first =>
                  by_cases h4 : 4 ≤ o.kind
                  · by_cases c1 : (k : Int) = o.id
                    · have c1t : ((k : Int) == o.id) = true := by rw [beq_iff_eq]; exact c1
                      have hr : B1 = true := by rw [HB1'.out, decide_eq_true h4, c1t]; rfl
                      clear c1
                      go_wp2_with fail
                      go_meet
                      exact ⟨by rw [hr], rfl⟩
                    · have c1f : ((k : Int) == o.id) = false := by rw [beq_eq_false_iff_ne]; exact c1
                      by_cases c2 : o.kind = 4
                      · have c2t : (o.kind == 4) = true := by rw [beq_iff_eq]; exact c2
                        by_cases c3 : (k : Int) = o.to
                        · have c3t : ((k : Int) == o.to) = true := by rw [beq_iff_eq]; exact c3
                          have hr : B1 = true := by rw [HB1'.out, decide_eq_true h4, c1f, c2t, c3t]; rfl
                          clear c1 c2 c3
                          go_wp2_with fail
                          go_meet
                          exact ⟨by rw [hr], rfl⟩
                        · have c3f : ((k : Int) == o.to) = false := by rw [beq_eq_false_iff_ne]; exact c3
                          have hr : B1 = false := by rw [HB1'.out, decide_eq_true h4, c1f, c2t, c3f]; rfl
                          clear c1 c2 c3
                          go_wp2_with fail
                          go_meet
                          exact ⟨by rw [hr], rfl⟩
                      · have c2f : (o.kind == 4) = false := by rw [beq_eq_false_iff_ne]; exact c2
                        have hr : B1 = false := by rw [HB1'.out, decide_eq_true h4, c1f, c2f]; rfl
                        clear c1 c2
                        go_wp2_with fail
                        go_meet
                        exact ⟨by rw [hr], rfl⟩
                  · have hk3 : o.kind < 4 := by omega
                    have hr : B1 = false := by rw [HB1'.out, decide_eq_false h4]; rfl
                    go_wp2_with fail
                    go_meet
                    exact ⟨by rw [hr], rfl⟩
                case rest =>
                  obtain ⟨rfl, rfl⟩ := hcut
                  go_upto_region 15 with fail
                  go_cut [108] (fun a wy => a = .bool B2 ∧ wy = wc)
                  case first =>
                    by_cases h4 : 4 ≤ o.kind
                    · obtain ⟨n, hon, hnl⟩ := Hkn.out h4
                      have hnI : o.id < (f.length : Int) := by omega
                      have hn0 : (0 : Int) ≤ o.id := by omega
                      obtain rfl : n = o.id.toNat := by omega
                      obtain ⟨bn, on, _, _, _, _, hAn, _, _, _, _, _, y4, _⟩ := node_at (Hrf9.out _ Hb'.out) hnl
                      injection hAn with hAn
                      injection hAn with e1 e2 _
                      subst e1 e2
                      have hnf : isNode f o.id = true := (node_iff _ _).2 ⟨hn0, hnI⟩
                      have hatn : at_ f o.id = f[o.id.toNat] := (congrArg (at_ f) hon).trans (atN hnl)
                      have hr0 : B2 = (f[o.id.toNat].parent == (k : Int)) := by rw [HB2'.out, decide_eq_true h4, hnf, hatn]; simp
                      clear hon hnf hatn
                      generalize f[o.id.toNat].parent = pn at *
                      by_cases c4 : pn = (k : Int)
                      · have c4t : (pn == (k : Int)) = true := by rw [beq_iff_eq]; exact c4
                        have hr : B2 = true := by rw [hr0, c4t]
                        clear c4
                        go_wp2_with fail
                        go_meet
                        exact ⟨by rw [hr], rfl⟩
                      · have c4f : (pn == (k : Int)) = false := by rw [beq_eq_false_iff_ne]; exact c4
                        have hr : B2 = false := by rw [hr0, c4f]
                        clear c4
                        go_wp2_with fail
                        go_meet
                        exact ⟨by rw [hr], rfl⟩
                    · have hk3 : o.kind < 4 := by omega
                      have hr : B2 = false := by rw [HB2'.out, decide_eq_false h4]; rfl
                      go_wp2_with fail
                      go_meet
                      exact ⟨by rw [hr], rfl⟩
                  case rest =>
                    obtain ⟨rfl, rfl⟩ := hcut
                    obtain ⟨hp1, hp2, hp3, hp4, hp5, hp6, hp7, hp8, hp9⟩ := hp10.out
                    have hNd := HNd.out
                    cases B2 with
                    | true =>
                      clear z0 z1 z2 z3 z4 z5 zf hNd
                      go_wp2_with fail
                      go_region
                      all_goals go_wp2_with fail
                      all_goals
                        go_roundw
                        case rel => exact ⟨k + 1, by omega, by go_num, by first | exact Hb'.out | exact Hb'.out.drew⟩
                        case measure => simp [intOf]; omega
                    | false =>
                      cases B1 with
                      | true =>
                        clear z0 z1 z2 z3 z4 z5 zf hNd
                        go_wp2_with fail
                        go_region
                        all_goals go_wp2_with fail
                        all_goals
                          go_roundw
                          case rel => exact ⟨k + 1, by omega, by go_num, by first | exact Hb'.out | exact Hb'.out.drew⟩
                          case measure => simp [intOf]; omega
                      | false =>
                        have Hs := Lib.hid (Hsm.out hNd)
                        clear z0 z1 z2 z3 z4 z5 zf hNd
                        go_wp2_with fail
                        go_region_held3 (fun w' => True) (first | exact trivial | go_keep) (first | (go_at_call 28; (first | (with_reducible refine (Hs.out _ (Below.refl _ _)).mono ?_) | (with_reducible refine (Hs.out _ (Below.refl _ _).drew).mono ?_)); rintro e w10 ⟨rfl, hb10⟩; have Hb10 := Lib.hid hb10; clear hb10))
                        all_goals go_wp2_with fail
                        all_goals
                          go_roundw
                          case rel => exact ⟨k + 1, by omega, by go_num, by first | exact bthen Hb'.out Hb10.out | exact (bthen Hb'.out Hb10.out).drew⟩
                          case measure => simp [intOf]; omega
              · obtain rfl : k = f.length := by omega
                have hx : ((f.length : Int) ≤ (G.length : Int)) := by omega
                have hx2 : ((G.length : Int) ≤ (f.length : Int) + 1) := by omega
                have Hb' := Lib.hid hb
                clear hb hlt
                go_wp2_with fail
                go_ret
                exact ⟨rfl, bthen HB0.out (bthen Hb.out (bthen Hb9.out Hb'.out))⟩
          · have hf : oneF f o = f := Doings.one_bad he
            have hq1 : (oneE f o != 0) = true := by rw [bne_iff_ne]; exact he
            have hq2 : (oneE f o == 0) = false := by rw [beq_eq_false_iff_ne]; exact he
            rw [hf] at hone
            have Hone := Lib.hid hone
            have hsame := fun w' (hb : Below wr.heap.size wr w') v9 (hr9 : RdF w'.heap.size w' v9 f) => FSameF.Same_calls w' _ v9 f f ((HR.out.below nodeE_keeps (w' := w') hb (Nat.le_refl _)).mono nodeE_keeps hb.size) hr9
            simp only [decide_true] at hsame
            have Hsame := Lib.hid hsame
            clear hone hcl he hf hsame
            generalize oneE f o = E at *
            go_wp2_with (first
              | (go_at_call 21; ((with_reducible refine (Hone.out _ (Below.refl _ _)).mono ?_); rintro e w9 ⟨v9, rfl, hr9, hb9⟩; have Hr9 := Lib.hid hr9; have Hb9 := Lib.hid hb9; clear hr9 hb9))
              | (go_at_call 28; ((with_reducible refine (Hsame.out _ Hb9.out _ Hr9.out).mono ?_); rintro e w10 ⟨rfl, hb10⟩; have Hb10 := Lib.hid (bthen Hb9.out hb10); clear hb10)))
            go_ret
            exact ⟨rfl, bthen HB0.out (bthen Hb.out Hb10.out)⟩
end Go.Proofs.YthdenkkllpkplaaGreat.LKeeps
end
section
/- The law ApplyKeeps answers true at every input, and each argument reads afterwards as it read before; no condition. -/
namespace Go.Proofs.YthdenkkllpkplaaGreat.applyKeeps
open Go.ChangeShapes Go.WideShapes Go.ChangeAt Go.RowKit
open Go.ChangeMaps (open_string shut_string)
set_option linter.unusedVariables false
theorem own : ownKnob Tryz.prog.godebug = none := by kernel_rfl
theorem laidOut : laidOutB Tryz.prog = true := by kernel_rfl
set_option maxRecDepth 100000 in
theorem lifted (os : Os) (started : os.Started) (H : Type) (enc : TypeId × Value → H) :
    ReturnsInHanded {} Tryz.checked os 10 .any (Rows.applyKeepsSpec.pre6 enc Tryz.prog Tryz.f10 Rows.applyKeepsRow.domain false) (Rows.applyKeepsSpec.post enc Tryz.prog Tryz.f10 false true false false) := by
  refine returnsInHanded_of_change_sized (C := Tryz.checked) own started (by kernel_rfl) Tryz.func10
    (ChangeSpec.witness6 (enc := enc) (C := Tryz.checked) false ⟨#[], #[.slice none 0 0, .agg #[.int .i64 0, .int .i64 0, .int .i64 0, .int .i64 0, .string ByteArray.empty, .string ByteArray.empty]], []⟩ 8 (by kernel_rfl) (by kernel_rfl) (by kernel_rfl) (by kernel_rfl)) ?_
  intro W base args ds gs before hval0 hW hcnd hsz0 _
  have hsz : (DataW.weightsEach Tryz.prog (Tryz.f10.params.toList ++ Rows.applyKeepsSpec.plain.varTypes Tryz.prog) (ds ++ gs)).all (· ≤ reachBytes) = true := hsz0
  have hval : ∀ (j : Nat) t v, Tryz.f10.params[j]? = some t → args[j]? = some v → Value.okWide Tryz.prog W .any base t v := hval0
  have hW' := hW
  obtain ⟨p, q, hA0, hV, rfl, hfz, hnd⟩ := hW
  have hA : DataW.TrodAll enc Tryz.prog W 0 (fun _ => true) true Tryz.f10.params.toList args.toList ds p := hA0
  rw [Tryz.params10] at hA hval hsz
  obtain ⟨v0, vs0, d0, ds0, p0, q0, hargs, rfl, rfl, h0, r0⟩ := trodAll_cons hA
  obtain ⟨v1, vs1, d1, ds1, p1, q1, rfl, rfl, rfl, h1, r1⟩ := trodAll_cons r0
  obtain ⟨rfl, rfl, rfl⟩ := trodAll_nil r1
  obtain rfl : args = #[v0, v1] := by cases args; simp_all
  obtain ⟨rfl, rfl⟩ := trodVars_none hV
  have k0 := h0
  have lt0 : ∀ x ∈ p0, x.block < W.heap.size := by obtain ⟨m, hm⟩ := k0; exact DataW.trod_lt m _ _ _ hm
  obtain ⟨l0, x0⟩ := Rd.open_list 6 Tryz.underlying22 (by kernel_rfl) (by decide) Shapes.opens_op_Op (hval 0 22 v0 rfl rfl) h0
  have k1 := h1
  have lt1 : ∀ x ∈ p1, x.block < W.heap.size := by obtain ⟨m, hm⟩ := k1; exact DataW.trod_lt m _ _ _ hm
  obtain ⟨l1, rfl, x1⟩ := Shapes.open_op Tryz.underlying24 Shapes.opens_op_Op (hval 1 24 v1 rfl rfl) h1
  clear hA0 hval0 hsz0 hsz
  refine (LKeeps.law_calls W l0 v0 x0 l1 x1).mono fun e W' ⟨he, bel⟩ => ?_
  subst he
  exact ⟨_, rfl, _, _, _, [], _, [], hW', trodAll_mk1 (shut_bool Tryz.underlying4 _), (trodAll_cons_mk (Below.trod laidOut (by kernel_rfl) (of_decide_eq_true (by kernel_rfl)) k0 bel lt0) (trodAll_cons_mk (Below.trod laidOut (by kernel_rfl) (of_decide_eq_true (by kernel_rfl)) k1 bel lt1) trodAll_mk0)), rfl, bel.frame _, fun h => by cases h⟩
set_option maxHeartbeats 20000000 in
theorem closed : joinedFacts Tryz.pinned.checked.prog 10 Tryz.f10 Rows.applyKeepsSpec Rows.applyKeepsRow = true := by
  unfold joinedFacts
  repeat' (with_reducible refine Bool.and_eq_true_iff.2 ⟨?_, ?_⟩)
  all_goals as_aux_lemma => kernel_rfl
theorem over : Rows.applyKeepsRow.holds Tryz.pinned (OpenSpec.ofChange Rows.applyKeepsSpec) :=
  OpenClaim.holds_of_wide 10 Tryz.f10 rfl rfl rfl rfl rfl rfl rfl ⟨rfl, rfl, rfl, rfl, rfl⟩ rfl rfl rfl rfl rfl (by kernel_rfl) Tryz.func10 closed
    (of_decide_eq_true (by kernel_rfl)) (by unfold Func.isWrapper; first | (rw [if_pos (by decide +kernel)]; kernel_rfl) | (rw [if_neg (by decide +kernel)]; exact ⟨rfl, rfl⟩))
    (fun os started H enc _ => lifted os started H enc)
theorem proved : Rows.ApplyKeepsSaid := over
end Go.Proofs.YthdenkkllpkplaaGreat.applyKeeps
namespace Go.Proofs.YthdenkkllpkplaaGreat
/-- The row, under a short name, for the claim. -/
theorem applyKeeps_holds : Rows.ApplyKeepsSaid := applyKeeps.proved
#print axioms applyKeeps_holds
end Go.Proofs.YthdenkkllpkplaaGreat
end
