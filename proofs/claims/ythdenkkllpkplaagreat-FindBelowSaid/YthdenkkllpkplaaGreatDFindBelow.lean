/- The law FindBelow answers true at every input, and each argument reads afterwards as it read before; no condition. -/
import Derived.Test.YthdenkkllpkplaaGreatRows
import Derived.WalkKit
import Derived.ProofKit
import Derived.OpenShut
import Derived.ShutString
import Derived.ChangeOld
import Derived.Below
import Derived.SizedLaws
import Derived.Test.YthdenkkllpkplaaGreatC14
import Derived.Test.YthdenkkllpkplaaGreatC23
import Derived.Test.YthdenkkllpkplaaGreatC25
import Derived.Test.YthdenkkllpkplaaGreatC06
section
/- treillagelaw10.FindBelow. -/
namespace Go.Proofs.YthdenkkllpkplaaGreat.LBelow
open Go Go.RowKit Go.Proofs.YthdenkkllpkplaaGreat.Seq Go.Proofs.YthdenkkllpkplaaGreat.WS Go.Proofs.YthdenkkllpkplaaGreat.FS Go.Proofs.YthdenkkllpkplaaGreat.Mem Go.Proofs.YthdenkkllpkplaaGreat.Rd Go.Proofs.YthdenkkllpkplaaGreat.Shapes Go.Proofs.YthdenkkllpkplaaGreat.Word Go.Proofs.YthdenkkllpkplaaGreat.FFam Go.Proofs.YthdenkkllpkplaaGreat.Grown Go.Proofs.YthdenkkllpkplaaGreat.Fn Go.Proofs.YthdenkkllpkplaaGreat.Pa Go.Proofs.YthdenkkllpkplaaGreat.Fi
set_option linter.unusedVariables false
set_option linter.unusedSimpArgs false
set_option maxRecDepth 100000 in
set_option maxHeartbeats 8000000 in
theorem law_calls (w : World) (l : List Opn) (v : Value) (h : RdO w.heap.size w v l) (a : List Tst) (va : Value) (ha : RdL testE 3 w.heap.size w va a) (b : List Tst) (vb : Value) (hb : RdL testE 3 w.heap.size w vb b) (ch : Bool) :
    Calls Tryz.prog 14 #[v, va, vb, .bool ch] w fun e w' => e = .returned (.bool true) ∧ Below w.heap.size w w' := by
  obtain ⟨w2, hw2⟩ : ∃ w2, (w.alloc (.cells #[va, .bool false, vb, .bool ch] 82)).alloc (.cells #[.slice (some ⟨w.heap.size, 0, none⟩) 2 2] 77) = w2 := ⟨_, rfl⟩
  obtain ⟨hsel, hb2, hs2⟩ := lit_two hw2 ha hb
  have hO := fun w' (hb : Below w.heap.size w w') => (h.below opE_keeps (w' := w') hb (Nat.le_refl _)).mono opE_keeps hb.size
  have hbn := Fi.bounded_calls w2 v l (hO w2 hb2)
  have hgr := fun w' (hb : Below w2.heap.size w2 w') => Fi.grown_calls w' v l (hO w' (bthen hb2 hb))
  unfold Fi.GrownPost at hgr
  have hfw := few_calls w2 _ _ hsel
  have hra := fun w' (hb : Below w2.heap.size w2 w') => (ha.below testE_keeps (w' := w') (bthen hb2 hb) (Nat.le_refl _)).mono testE_keeps (bthen hb2 hb).size
  have hrb := fun w' (hx : Below w2.heap.size w2 w') => (hb.below testE_keeps (w' := w') (bthen hb2 hx) (Nat.le_refl _)).mono testE_keeps (bthen hb2 hx).size
  have hrl := fun w' (hb : Below w2.heap.size w2 w') => (hsel.below rowE_keeps (w' := w') hb (Nat.le_refl _)).mono rowE_keeps hb.size
  obtain ⟨A0, c0, rfl, hl0, hc0, _⟩ := h.form
  obtain ⟨Aa, ca, rfl, _, _, _⟩ := ha.form
  obtain ⟨Ab, cb, rfl, _, _, _⟩ := hb.form
  simp only [maxLen] at hc0
  have HW2 := Lib.hid hw2; have HB2 := Lib.hid hb2; have Hgr := Lib.hid hgr; have Hra := Lib.hid hra; have Hrb := Lib.hid hrb; have Hrl := Lib.hid hrl
  clear hw2 hb2 hgr hra hrb hrl hO hsel hs2 h ha hb
  by_cases hB : bndO l = true ∧ fewB [[{ c := a }, { c := b, child := ch }]] = true
  · obtain ⟨hB, hF⟩ := hB
    rw [hB] at hbn
    rw [hF] at hfw
    have hm := grow_may l
    have hsm := Fi.grow_sm hB
    have hsma : SmC a ∧ SmC b ∧ SmS [[{ c := a }, { c := b, child := ch }]] := by
      unfold fewB smL at hF
      rw [Bool.and_eq_true] at hF
      have h1 := hF.1
      simp only [List.all_cons, List.all_nil, Bool.and_true, Bool.and_eq_true] at h1
      have key : ∀ c : List Tst, c.all smT = true → SmC c := fun c hc t ht => by
        have := List.all_eq_true.1 hc t ht
        unfold smT at this
        rw [Bool.and_eq_true, decide_eq_true_eq] at this
        omega
      refine ⟨key _ h1.1, key _ h1.2, fun r hr x hx => ?_⟩
      rw [List.mem_singleton] at hr
      subst hr
      simp only [List.mem_cons, List.not_mem_nil, or_false] at hx
      rcases hx with rfl | rfl
      · exact key _ h1.1
      · exact key _ h1.2
    obtain ⟨f, hf⟩ : ∃ f, f = growF l := ⟨_, rfl⟩
    rw [← hf] at hm hsm
    have hgr' := Hgr.out
    simp only [← hf] at hgr'
    have hlen := may_len hm
    have Hbn := Lib.hid hbn; have Hfw := Lib.hid hfw; have Hg := Lib.hid hgr'; have Hm := Lib.hid hm; have Hsm := Lib.hid hsm; have Hsma := Lib.hid hsma
    clear hbn hfw hgr' Hgr hm hsm hsma hB hF hf
    go_enter Tryz.func14, Tryz.ntmps14
    go_upto_region 2 with fail
    rw [HW2.out]
    go_upto_region 5 with (first | (go_at_call 32; (with_reducible refine (Hbn.out).mono ?_); rintro e w5 ⟨rfl, rfl⟩; clear Hbn) | (go_at_call 33; (with_reducible refine (Hfw.out).mono ?_); rintro e w5 ⟨rfl, rfl⟩; clear Hfw) | (go_at_call 34; (with_reducible refine (Fi.shown_calls _).mono ?_); rintro e w6 ⟨rfl, hb6⟩; have Hb6 := Lib.hid hb6; clear hb6) | (go_at_call 35; (with_reducible refine (Hg.out _ Hb6.out).mono ?_); rintro e w7 ⟨v7, rfl, hr7, hb7⟩; have Hr7 := Lib.hid hr7; have Hb7 := Lib.hid (bthen Hb6.out hb7); clear hr7 hb7))
    obtain ⟨bn, on, c7, rfl, hl7, hc7⟩ := slice_some Hr7.out (by omega)
    simp only [maxLen] at hc7
    have hrd := fun w' (hb : Below w7.heap.size w7 w') => (Hr7.out.below nodeE_keeps (w' := w') hb (Nat.le_refl _)).mono nodeE_keeps hb.size
    have Hrd := Lib.hid hrd
    clear hrd Hr7
    go_wp2_with fail
    go_loopw [11] (fun i wr => ∃ k : Nat, k ≤ f.length ∧ i = .int .i64 k ∧ Hid (Below w7.heap.size w7 wr)) (fun i _ => f.length - (intOf i).toNat)
    case atStart => exact ⟨0, Nat.zero_le _, rfl, Lib.hid (Below.refl _ _)⟩
    case round =>
      obtain ⟨k, hk, rfl, hb⟩ := hrel
      by_cases hlt : k < f.length
      · obtain ⟨wo, rfl⟩ : ∃ wo : World, wo = wr := ⟨_, rfl⟩
        have Hb := Lib.hid hb.out
        clear hb
        have hlt0 : (k : Int) < (f.length : Int) := by omega
        have hk0 : (0 : Int) ≤ (k : Int) := by omega
        go_wp2_with fail
        go_loopw [12, 13] (fun u i wr => ∃ m : Nat, m ≤ f.length ∧ i = .int .i64 m ∧ Hid (u = .bool (wantB f a ch k m && fitsC (at_ f (k : Int)) b)) ∧ Hid (Below wo.heap.size wo wr)) (fun _ i _ => f.length - (intOf i).toNat)
        case atStart => exact ⟨0, Nat.zero_le _, rfl, Lib.hid rfl, Lib.hid (Below.refl _ _)⟩
        case round =>
          obtain ⟨m, hmk, rfl, hu, hbi⟩ := hrel
          by_cases hml : m < f.length
          · have hup := bthen Hb.out hbi.out
            obtain ⟨va1, vk1, ⟨_, _, _, rfl⟩, ⟨_, _, _, rfl⟩, hc1, hf1⟩ := fits_at (Hrd.out wr hup) Hsm.out hml
            obtain ⟨va2, vk2, ⟨_, _, _, rfl⟩, ⟨_, _, _, rfl⟩, hc2, hf2⟩ := fits_at (Hrd.out wr hup) Hsm.out hlt
            have hr := fun w' (hb : Below wr.heap.size wr w') => Hra.out w' (bthen Hb7.out (bthen hup hb))
            have hr2 := fun w' (hb : Below wr.heap.size wr w') => Hrb.out w' (bthen Hb7.out (bthen hup hb))
            have hbl := fun w' (hb : Below wr.heap.size wr w') => FBelow.Below_calls w' _ f (m : Int) (k : Int) (Hrd.out w' (bthen hup hb)) (fun n hn => by have := Work.may_kids Hm.out n hn; omega)
            have hfa := fun w' hb => hf1 w' hb _ a (hr w' hb) Hsma.out.1
            have hfb := fun w' hb => hf2 w' hb _ b (hr2 w' hb) Hsma.out.2.1
            obtain ⟨x0, x1, x2, x3, x4, x5⟩ := hc1 wr (Below.refl _ _)
            obtain ⟨y0, y1, y2, y3, y4, y5⟩ := hc2 wr (Below.refl _ _)
            have hwn := wantB_succ f a ch (k : Int) m
            unfold SoPost at hfa hfb
            have hm0 : (m : Int) < (f.length : Int) := by omega
            have hm00 : (0 : Int) ≤ (m : Int) := by omega
            cases hfit : fitsC (at_ f (m : Int)) a with
            | false =>
              rw [hfit] at hfa
              have hnx : wantB f a ch k (m + 1) = wantB f a ch k m := by rw [hwn]; unfold condD; rw [hfit]; simp
              have Hnx := Lib.hid hnx; have Hfa := Lib.hid hfa; have Hfb := Lib.hid hfb; have Hbl := Lib.hid hbl; have Hc2 := Lib.hid hc2
              clear hnx hfa hfb hbl hc2 hc1 hf1 hf2 hr hr2 hwn hfit
              go_wp2_with (first | (go_at_call 45; first | ((with_reducible refine (Hfa.out _ (Below.refl _ _)).mono ?_); rintro e w9 ⟨rfl, hb9⟩; have Hb9 := Lib.hid hb9; clear hb9) | ((with_reducible refine (Hfb.out _ Hb10.out).mono ?_); rintro e w11 ⟨rfl, hb11⟩; have Hb11 := Lib.hid (bthen Hb10.out hb11); clear hb11)) | (go_at_call 49; (with_reducible refine (Hbl.out _ Hb9.out).mono ?_); rintro e w10 ⟨rfl, hb10⟩; obtain ⟨z0, z1, z2, z3, z4, z5⟩ := Hc2.out _ (bthen Hb9.out hb10); have Hb10 := Lib.hid (bthen Hb9.out hb10); clear hb10))
              go_roundw
              case rel => exact ⟨m + 1, by omega, by go_num, Lib.hid (by rw [Hnx.out]; exact hu.out), Lib.hid (bthen hbi.out Hb9.out)⟩
              case measure => simp [intOf]; omega
            | true =>
              rw [hfit] at hfa
              by_cases hmk2 : m = k
              · have hq1 : ((m : Int) == (k : Int)) = true := by rw [beq_iff_eq]; omega
                have hq2 : ((m : Int) != (k : Int)) = false := by rw [bne, hq1]; rfl
                have hnx : wantB f a ch k (m + 1) = wantB f a ch k m := by rw [hwn]; unfold condD; rw [decide_eq_false (show ¬ ((m : Int) ≠ (k : Int)) by omega)]; simp
                clear hmk2
                have Hnx := Lib.hid hnx; have Hfa := Lib.hid hfa; have Hfb := Lib.hid hfb; have Hbl := Lib.hid hbl; have Hc2 := Lib.hid hc2
                clear hnx hfa hfb hbl hc2 hc1 hf1 hf2 hr hr2 hwn hfit
                go_wp2_with (first | (go_at_call 45; first | ((with_reducible refine (Hfa.out _ (Below.refl _ _)).mono ?_); rintro e w9 ⟨rfl, hb9⟩; have Hb9 := Lib.hid hb9; clear hb9) | ((with_reducible refine (Hfb.out _ Hb10.out).mono ?_); rintro e w11 ⟨rfl, hb11⟩; have Hb11 := Lib.hid (bthen Hb10.out hb11); clear hb11)) | (go_at_call 49; (with_reducible refine (Hbl.out _ Hb9.out).mono ?_); rintro e w10 ⟨rfl, hb10⟩; obtain ⟨z0, z1, z2, z3, z4, z5⟩ := Hc2.out _ (bthen Hb9.out hb10); have Hb10 := Lib.hid (bthen Hb9.out hb10); clear hb10))
                go_roundw
                case rel => exact ⟨m + 1, by omega, by go_num, Lib.hid (by rw [Hnx.out]; exact hu.out), Lib.hid (bthen hbi.out Hb9.out)⟩
                case measure => simp [intOf]; omega
              · have hq1 : ((m : Int) == (k : Int)) = false := by rw [beq_eq_false_iff_ne]; omega
                have hq2 : ((m : Int) != (k : Int)) = true := by rw [bne, hq1]; rfl
                have hne : decide ((m : Int) ≠ (k : Int)) = true := decide_eq_true (by omega)
                clear hmk2
                cases hbw : belowB f m k with
                | false =>
                  simp only [hbw] at hbl
                  have hnx : wantB f a ch k (m + 1) = wantB f a ch k m := by rw [hwn]; unfold condD; rw [hbw]; simp
                  clear hne hbw
                  have Hnx := Lib.hid hnx; have Hfa := Lib.hid hfa; have Hfb := Lib.hid hfb; have Hbl := Lib.hid hbl; have Hc2 := Lib.hid hc2
                  clear hnx hfa hfb hbl hc2 hc1 hf1 hf2 hr hr2 hwn hfit
                  go_wp2_with (first | (go_at_call 45; first | ((with_reducible refine (Hfa.out _ (Below.refl _ _)).mono ?_); rintro e w9 ⟨rfl, hb9⟩; have Hb9 := Lib.hid hb9; clear hb9) | ((with_reducible refine (Hfb.out _ Hb10.out).mono ?_); rintro e w11 ⟨rfl, hb11⟩; have Hb11 := Lib.hid (bthen Hb10.out hb11); clear hb11)) | (go_at_call 49; (with_reducible refine (Hbl.out _ Hb9.out).mono ?_); rintro e w10 ⟨rfl, hb10⟩; obtain ⟨z0, z1, z2, z3, z4, z5⟩ := Hc2.out _ (bthen Hb9.out hb10); have Hb10 := Lib.hid (bthen Hb9.out hb10); clear hb10))
                  go_roundw
                  case rel => exact ⟨m + 1, by omega, by go_num, Lib.hid (by rw [Hnx.out]; exact hu.out), Lib.hid (bthen hbi.out Hb10.out)⟩
                  case measure => simp [intOf]; omega
                | true =>
                  simp only [hbw] at hbl
                  cases hch : ch with
                  | false =>
                    subst hch
                    have hnx : wantB f a false k (m + 1) = true := by rw [hwn]; unfold condD; rw [hfit, hne, hbw]; simp
                    clear hne hbw
                    have Hnx := Lib.hid hnx; have Hfa := Lib.hid hfa; have Hfb := Lib.hid hfb; have Hbl := Lib.hid hbl; have Hc2 := Lib.hid hc2
                    clear hnx hfa hfb hbl hc2 hc1 hf1 hf2 hr hr2 hwn hfit
                    go_wp2_with (first | (go_at_call 45; first | ((with_reducible refine (Hfa.out _ (Below.refl _ _)).mono ?_); rintro e w9 ⟨rfl, hb9⟩; have Hb9 := Lib.hid hb9; clear hb9) | ((with_reducible refine (Hfb.out _ Hb10.out).mono ?_); rintro e w11 ⟨rfl, hb11⟩; have Hb11 := Lib.hid (bthen Hb10.out hb11); clear hb11)) | (go_at_call 49; (with_reducible refine (Hbl.out _ Hb9.out).mono ?_); rintro e w10 ⟨rfl, hb10⟩; obtain ⟨z0, z1, z2, z3, z4, z5⟩ := Hc2.out _ (bthen Hb9.out hb10); have Hb10 := Lib.hid (bthen Hb9.out hb10); clear hb10))
                    go_roundw
                    case rel => exact ⟨m + 1, by omega, by go_num, Lib.hid (by rw [Hnx.out, Bool.true_and]), Lib.hid (bthen hbi.out Hb11.out)⟩
                    case measure => simp [intOf]; omega
                  | true =>
                    subst hch
                    by_cases hp : (at_ f (k : Int)).parent = (m : Int)
                    · have hq3 : ((at_ f (k : Int)).parent == (m : Int)) = true := by rw [beq_iff_eq]; exact hp
                      have hnx : wantB f a true k (m + 1) = true := by rw [hwn]; unfold condD; rw [hfit, hne, hbw, decide_eq_true hp]; simp
                      clear hne hbw hp
                      have Hnx := Lib.hid hnx; have Hfa := Lib.hid hfa; have Hfb := Lib.hid hfb; have Hbl := Lib.hid hbl; have Hc2 := Lib.hid hc2
                      clear hnx hfa hfb hbl hc2 hc1 hf1 hf2 hr hr2 hwn hfit
                      go_wp2_with (first | (go_at_call 45; first | ((with_reducible refine (Hfa.out _ (Below.refl _ _)).mono ?_); rintro e w9 ⟨rfl, hb9⟩; have Hb9 := Lib.hid hb9; clear hb9) | ((with_reducible refine (Hfb.out _ Hb10.out).mono ?_); rintro e w11 ⟨rfl, hb11⟩; have Hb11 := Lib.hid (bthen Hb10.out hb11); clear hb11)) | (go_at_call 49; (with_reducible refine (Hbl.out _ Hb9.out).mono ?_); rintro e w10 ⟨rfl, hb10⟩; obtain ⟨z0, z1, z2, z3, z4, z5⟩ := Hc2.out _ (bthen Hb9.out hb10); have Hb10 := Lib.hid (bthen Hb9.out hb10); clear hb10))
                      go_roundw
                      case rel => exact ⟨m + 1, by omega, by go_num, Lib.hid (by rw [Hnx.out, Bool.true_and]), Lib.hid (bthen hbi.out Hb11.out)⟩
                      case measure => simp [intOf]; omega
                    · have hq3 : ((at_ f (k : Int)).parent == (m : Int)) = false := by rw [beq_eq_false_iff_ne]; exact hp
                      have hnx : wantB f a true k (m + 1) = wantB f a true k m := by rw [hwn]; unfold condD; rw [decide_eq_false hp]; simp
                      clear hne hbw hp
                      have Hnx := Lib.hid hnx; have Hfa := Lib.hid hfa; have Hfb := Lib.hid hfb; have Hbl := Lib.hid hbl; have Hc2 := Lib.hid hc2
                      clear hnx hfa hfb hbl hc2 hc1 hf1 hf2 hr hr2 hwn hfit
                      go_wp2_with (first | (go_at_call 45; first | ((with_reducible refine (Hfa.out _ (Below.refl _ _)).mono ?_); rintro e w9 ⟨rfl, hb9⟩; have Hb9 := Lib.hid hb9; clear hb9) | ((with_reducible refine (Hfb.out _ Hb10.out).mono ?_); rintro e w11 ⟨rfl, hb11⟩; have Hb11 := Lib.hid (bthen Hb10.out hb11); clear hb11)) | (go_at_call 49; (with_reducible refine (Hbl.out _ Hb9.out).mono ?_); rintro e w10 ⟨rfl, hb10⟩; obtain ⟨z0, z1, z2, z3, z4, z5⟩ := Hc2.out _ (bthen Hb9.out hb10); have Hb10 := Lib.hid (bthen Hb9.out hb10); clear hb10))
                      go_roundw
                      case rel => exact ⟨m + 1, by omega, by go_num, Lib.hid (by rw [Hnx.out]; exact hu.out), Lib.hid (bthen hbi.out Hb10.out)⟩
                      case measure => simp [intOf]; omega
          · obtain rfl : m = f.length := by omega
            have hup := bthen Hb.out hbi.out
            have his := Is_calls wr _ f (Hrd.out wr hup) Hm.out Hsm.out (k : Int) _ _ (Hrl.out wr (bthen Hb7.out hup)) Hsma.out.2.2
            rw [two_is Hm.out hlt] at his
            have hu' := hu.out
            obtain ⟨X, hX⟩ : ∃ X, X = (wantB f a ch k f.length && fitsC (at_ f (k : Int)) b) := ⟨_, rfl⟩
            rw [← hX] at hu'
            simp only [← hX] at his
            subst hu'
            have His := Lib.hid his
            clear his hu hX
            cases X
            all_goals
              go_wp2_with (go_at_call 43; (with_reducible refine (His.out).mono ?_); rintro e w12 ⟨rfl, hb12⟩; have Hb12 := Lib.hid hb12; clear hb12)
              go_roundw
            case rel => exact ⟨k + 1, by omega, by go_num, Lib.hid (bthen Hb.out (bthen hbi.out Hb12.out))⟩
            case measure => simp [intOf]; omega
            case rel => exact ⟨k + 1, by omega, by go_num, Lib.hid (bthen Hb.out (bthen hbi.out Hb12.out))⟩
            case measure => simp [intOf]; omega
      · obtain rfl : k = f.length := by omega
        have hpos : 0 < (f.length : Int) := by omega
        go_wp2_with fail
        go_ret
        exact ⟨ret_bool (by simp; omega), bthen HB2.out (bthen Hb7.out hb.out)⟩
  · have hno : bndO l = false ∨ (bndO l = true ∧ fewB [[{ c := a }, { c := b, child := ch }]] = false) := by
      cases h1 : bndO l <;> cases h2 : fewB [[{ c := a }, { c := b, child := ch }]] <;> simp_all
    rcases hno with hx | ⟨hx, hy⟩
    · rw [hx] at hbn
      have Hbn := Lib.hid hbn
      clear hbn hfw hx hB
      go_enter Tryz.func14, Tryz.ntmps14
      go_upto_region 2 with fail
      rw [HW2.out]
      go_wp2_with (first | (go_at_call 32; (with_reducible refine (Hbn.out).mono ?_); rintro e w5 ⟨rfl, rfl⟩; clear Hbn) | (go_at_call 34; (with_reducible refine (Fi.shown_calls _).mono ?_); rintro e w6 ⟨rfl, hb6⟩; have Hb6 := Lib.hid hb6; clear hb6))
      go_ret
      exact ⟨rfl, bthen HB2.out Hb6.out⟩
    · rw [hx] at hbn
      rw [hy] at hfw
      have Hbn := Lib.hid hbn; have Hfw := Lib.hid hfw
      clear hbn hfw hx hy hB
      go_enter Tryz.func14, Tryz.ntmps14
      go_upto_region 2 with fail
      rw [HW2.out]
      go_wp2_with (first | (go_at_call 32; (with_reducible refine (Hbn.out).mono ?_); rintro e w5 ⟨rfl, rfl⟩; clear Hbn) | (go_at_call 33; (with_reducible refine (Hfw.out).mono ?_); rintro e w5 ⟨rfl, rfl⟩; clear Hfw) | (go_at_call 34; (with_reducible refine (Fi.shown_calls _).mono ?_); rintro e w6 ⟨rfl, hb6⟩; have Hb6 := Lib.hid hb6; clear hb6))
      go_ret
      exact ⟨rfl, bthen HB2.out Hb6.out⟩
end Go.Proofs.YthdenkkllpkplaaGreat.LBelow
end
section
/- The law FindBelow answers true at every input, and each argument reads afterwards as it read before; no condition. -/
namespace Go.Proofs.YthdenkkllpkplaaGreat.findBelow
open Go.ChangeShapes Go.WideShapes Go.ChangeAt Go.RowKit
open Go.ChangeMaps (open_string shut_string)
set_option linter.unusedVariables false
theorem own : ownKnob Tryz.prog.godebug = none := by kernel_rfl
theorem laidOut : laidOutB Tryz.prog = true := by kernel_rfl
set_option maxRecDepth 100000 in
theorem lifted (os : Os) (started : os.Started) (H : Type) (enc : TypeId × Value → H) :
    ReturnsInHanded {} Tryz.checked os 14 .any (Rows.findBelowSpec.pre6 enc Tryz.prog Tryz.f14 Rows.findBelowRow.domain false) (Rows.findBelowSpec.post enc Tryz.prog Tryz.f14 false true false false) := by
  refine returnsInHanded_of_change_sized (C := Tryz.checked) own started (by kernel_rfl) Tryz.func14
    (ChangeSpec.witness6 (enc := enc) (C := Tryz.checked) false ⟨#[], #[.slice none 0 0, .slice none 0 0, .slice none 0 0, .bool false], []⟩ 8 (by kernel_rfl) (by kernel_rfl) (by kernel_rfl) (by kernel_rfl)) ?_
  intro W base args ds gs before hval0 hW hcnd hsz0 _
  have hsz : (DataW.weightsEach Tryz.prog (Tryz.f14.params.toList ++ Rows.findBelowSpec.plain.varTypes Tryz.prog) (ds ++ gs)).all (· ≤ reachBytes) = true := hsz0
  have hval : ∀ (j : Nat) t v, Tryz.f14.params[j]? = some t → args[j]? = some v → Value.okWide Tryz.prog W .any base t v := hval0
  have hW' := hW
  obtain ⟨p, q, hA0, hV, rfl, hfz, hnd⟩ := hW
  have hA : DataW.TrodAll enc Tryz.prog W 0 (fun _ => true) true Tryz.f14.params.toList args.toList ds p := hA0
  rw [Tryz.params14] at hA hval hsz
  obtain ⟨v0, vs0, d0, ds0, p0, q0, hargs, rfl, rfl, h0, r0⟩ := trodAll_cons hA
  obtain ⟨v1, vs1, d1, ds1, p1, q1, rfl, rfl, rfl, h1, r1⟩ := trodAll_cons r0
  obtain ⟨v2, vs2, d2, ds2, p2, q2, rfl, rfl, rfl, h2, r2⟩ := trodAll_cons r1
  obtain ⟨v3, vs3, d3, ds3, p3, q3, rfl, rfl, rfl, h3, r3⟩ := trodAll_cons r2
  obtain ⟨rfl, rfl, rfl⟩ := trodAll_nil r3
  obtain rfl : args = #[v0, v1, v2, v3] := by cases args; simp_all
  obtain ⟨rfl, rfl⟩ := trodVars_none hV
  have k0 := h0
  have lt0 : ∀ x ∈ p0, x.block < W.heap.size := by obtain ⟨m, hm⟩ := k0; exact DataW.trod_lt m _ _ _ hm
  obtain ⟨l0, x0⟩ := Rd.open_list 6 Tryz.underlying22 (by kernel_rfl) (by decide) Shapes.opens_op_Op (hval 0 22 v0 rfl rfl) h0
  have k1 := h1
  have lt1 : ∀ x ∈ p1, x.block < W.heap.size := by obtain ⟨m, hm⟩ := k1; exact DataW.trod_lt m _ _ _ hm
  obtain ⟨l1, x1⟩ := Rd.open_list 3 Tryz.underlying80 (by kernel_rfl) (by decide) Shapes.opens_sel_Test (hval 1 80 v1 rfl rfl) h1
  have k2 := h2
  have lt2 : ∀ x ∈ p2, x.block < W.heap.size := by obtain ⟨m, hm⟩ := k2; exact DataW.trod_lt m _ _ _ hm
  obtain ⟨l2, x2⟩ := Rd.open_list 3 Tryz.underlying80 (by kernel_rfl) (by decide) Shapes.opens_sel_Test (hval 2 80 v2 rfl rfl) h2
  obtain ⟨a3, rfl, rfl, rfl⟩ := open_bool Tryz.underlying4 (hval 3 4 v3 rfl rfl) h3
  clear hA0 hval0 hsz0 hsz
  refine (LBelow.law_calls W l0 v0 x0 l1 v1 x1 l2 v2 x2 a3).mono fun e W' ⟨he, bel⟩ => ?_
  subst he
  exact ⟨_, rfl, _, _, _, [], _, [], hW', trodAll_mk1 (shut_bool Tryz.underlying4 _), (trodAll_cons_mk (Below.trod laidOut (by kernel_rfl) (of_decide_eq_true (by kernel_rfl)) k0 bel lt0) (trodAll_cons_mk (Below.trod laidOut (by kernel_rfl) (of_decide_eq_true (by kernel_rfl)) k1 bel lt1) (trodAll_cons_mk (Below.trod laidOut (by kernel_rfl) (of_decide_eq_true (by kernel_rfl)) k2 bel lt2) (trodAll_cons_mk (shut_bool Tryz.underlying4 _) trodAll_mk0)))), rfl, bel.frame _, fun h => by cases h⟩
set_option maxHeartbeats 20000000 in
theorem closed : joinedFacts Tryz.pinned.checked.prog 14 Tryz.f14 Rows.findBelowSpec Rows.findBelowRow = true := by
  unfold joinedFacts
  repeat' (with_reducible refine Bool.and_eq_true_iff.2 ⟨?_, ?_⟩)
  all_goals as_aux_lemma => kernel_rfl
theorem over : Rows.findBelowRow.holds Tryz.pinned (OpenSpec.ofChange Rows.findBelowSpec) :=
  OpenClaim.holds_of_wide 14 Tryz.f14 rfl rfl rfl rfl rfl rfl rfl ⟨rfl, rfl, rfl, rfl, rfl⟩ rfl rfl rfl rfl rfl (by kernel_rfl) Tryz.func14 closed
    (of_decide_eq_true (by kernel_rfl)) (by unfold Func.isWrapper; first | (rw [if_pos (by decide +kernel)]; kernel_rfl) | (rw [if_neg (by decide +kernel)]; exact ⟨rfl, rfl⟩))
    (fun os started H enc _ => lifted os started H enc)
theorem proved : Rows.FindBelowSaid := over
end Go.Proofs.YthdenkkllpkplaaGreat.findBelow
namespace Go.Proofs.YthdenkkllpkplaaGreat
/-- The row, under a short name, for the claim. -/
theorem findBelow_holds : Rows.FindBelowSaid := findBelow.proved
#print axioms findBelow_holds
end Go.Proofs.YthdenkkllpkplaaGreat
end
