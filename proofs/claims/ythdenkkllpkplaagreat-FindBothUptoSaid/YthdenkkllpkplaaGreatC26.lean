/- Joined by a program: LBelow, FnId, WkE, LIds, PlA. -/
import Derived.Laws.OwnMore
import Derived.Maps.AppendAt
import Derived.Test.YthdenkkllpkplaaGreatC14
import Derived.Test.YthdenkkllpkplaaGreatC23
import Derived.Test.YthdenkkllpkplaaGreatC25
import Derived.Test.YthdenkkllpkplaaGreatC06
import Derived.Test.YthdenkkllpkplaaGreatC22
import Derived.Test.YthdenkkllpkplaaGreatC12
section
/- treillagelaw10.FindBelow. -/
namespace Go.Proofs.YthdenkkllpkplaaGreat.LBelow
open Go Go.RowKit Go.Proofs.YthdenkkllpkplaaGreat.Seq Go.Proofs.YthdenkkllpkplaaGreat.WS Go.Proofs.YthdenkkllpkplaaGreat.FS Go.Proofs.YthdenkkllpkplaaGreat.Mem Go.Proofs.YthdenkkllpkplaaGreat.Rd Go.Proofs.YthdenkkllpkplaaGreat.Shapes Go.Proofs.YthdenkkllpkplaaGreat.Word Go.Proofs.YthdenkkllpkplaaGreat.FFam Go.Proofs.YthdenkkllpkplaaGreat.Grown Go.Proofs.YthdenkkllpkplaaGreat.Fn Go.Proofs.YthdenkkllpkplaaGreat.Pa Go.Proofs.YthdenkkllpkplaaGreat.Fi
set_option linter.unusedVariables false
set_option linter.unusedSimpArgs false
set_option maxRecDepth 100000 in
set_option maxHeartbeats 8000000 in
theorem law_calls (w : World) (l : List Opn) (v : Value) (h : RdO w.heap.size w v l) (a : List Tst) (va : Value) (ha : RdL testE 3 w.heap.size w va a) (b : List Tst) (vb : Value) (hb : RdL testE 3 w.heap.size w vb b) (ch : Bool) :
    Calls Tryz.prog 14 #[v, va, vb, .bool ch] w fun e w' => e = .returned (.bool true) ∧ Below w.heap.size w w' := by
  obtain ⟨w2, hw2⟩ : ∃ w2, (w.alloc (.cells #[va, .bool false, vb, .bool ch] 82)).alloc (.cells #[.slice (some ⟨w.heap.size, 0, none⟩) 2 2] 77) = w2 := ⟨_, rfl⟩
  obtain ⟨hsel, hb2, hs2⟩ := lit_two hw2 ha hb
  have hO := fun w' (hb : Below w.heap.size w w') => (h.below opE_keeps (w' := w') hb (Nat.le_refl _)).mono opE_keeps hb.size
  have hbn := Fi.bounded_calls w2 v l (hO w2 hb2)
  have hgr := fun w' (hb : Below w2.heap.size w2 w') => Fi.grown_calls w' v l (hO w' (bthen hb2 hb))
  unfold Fi.GrownPost at hgr
  have hfw := few_calls w2 _ _ hsel
  have hra := fun w' (hb : Below w2.heap.size w2 w') => (ha.below testE_keeps (w' := w') (bthen hb2 hb) (Nat.le_refl _)).mono testE_keeps (bthen hb2 hb).size
  have hrb := fun w' (hx : Below w2.heap.size w2 w') => (hb.below testE_keeps (w' := w') (bthen hb2 hx) (Nat.le_refl _)).mono testE_keeps (bthen hb2 hx).size
  have hrl := fun w' (hb : Below w2.heap.size w2 w') => (hsel.below rowE_keeps (w' := w') hb (Nat.le_refl _)).mono rowE_keeps hb.size
  obtain ⟨A0, c0, rfl, hl0, hc0, _⟩ := h.form
  obtain ⟨Aa, ca, rfl, _, _, _⟩ := ha.form
  obtain ⟨Ab, cb, rfl, _, _, _⟩ := hb.form
  simp only [maxLen] at hc0
  have HW2 := Lib.hid hw2; have HB2 := Lib.hid hb2; have Hgr := Lib.hid hgr; have Hra := Lib.hid hra; have Hrb := Lib.hid hrb; have Hrl := Lib.hid hrl
  clear hw2 hb2 hgr hra hrb hrl hO hsel hs2 h ha hb
  by_cases hB : bndO l = true ∧ fewB [[{ c := a }, { c := b, child := ch }]] = true
  · obtain ⟨hB, hF⟩ := hB
    rw [hB] at hbn
    rw [hF] at hfw
    have hm := grow_may l
    have hsm := Fi.grow_sm hB
    have hsma : SmC a ∧ SmC b ∧ SmS [[{ c := a }, { c := b, child := ch }]] := by
      unfold fewB smL at hF
      rw [Bool.and_eq_true] at hF
      have h1 := hF.1
      simp only [List.all_cons, List.all_nil, Bool.and_true, Bool.and_eq_true] at h1
      have key : ∀ c : List Tst, c.all smT = true → SmC c := fun c hc t ht => by
        have := List.all_eq_true.1 hc t ht
        unfold smT at this
        rw [Bool.and_eq_true, decide_eq_true_eq] at this
        omega
      refine ⟨key _ h1.1, key _ h1.2, fun r hr x hx => ?_⟩
      rw [List.mem_singleton] at hr
      subst hr
      simp only [List.mem_cons, List.not_mem_nil, or_false] at hx
      rcases hx with rfl | rfl
      · exact key _ h1.1
      · exact key _ h1.2
    obtain ⟨f, hf⟩ : ∃ f, f = growF l := ⟨_, rfl⟩
    rw [← hf] at hm hsm
    have hgr' := Hgr.out
    simp only [← hf] at hgr'
    have hlen := may_len hm
    have Hbn := Lib.hid hbn; have Hfw := Lib.hid hfw; have Hg := Lib.hid hgr'; have Hm := Lib.hid hm; have Hsm := Lib.hid hsm; have Hsma := Lib.hid hsma
    clear hbn hfw hgr' Hgr hm hsm hsma hB hF hf
    go_enter Tryz.func14, Tryz.ntmps14
    go_upto_region 2 with fail
    rw [HW2.out]
    go_upto_region 5 with (first | (go_at_call 32; (with_reducible refine (Hbn.out).mono ?_); rintro e w5 ⟨rfl, rfl⟩; clear Hbn) | (go_at_call 33; (with_reducible refine (Hfw.out).mono ?_); rintro e w5 ⟨rfl, rfl⟩; clear Hfw) | (go_at_call 34; (with_reducible refine (Fi.shown_calls _).mono ?_); rintro e w6 ⟨rfl, hb6⟩; have Hb6 := Lib.hid hb6; clear hb6) | (go_at_call 35; (with_reducible refine (Hg.out _ Hb6.out).mono ?_); rintro e w7 ⟨v7, rfl, hr7, hb7⟩; have Hr7 := Lib.hid hr7; have Hb7 := Lib.hid (bthen Hb6.out hb7); clear hr7 hb7))
    obtain ⟨bn, on, c7, rfl, hl7, hc7⟩ := slice_some Hr7.out (by omega)
    simp only [maxLen] at hc7
    have hrd := fun w' (hb : Below w7.heap.size w7 w') => (Hr7.out.below nodeE_keeps (w' := w') hb (Nat.le_refl _)).mono nodeE_keeps hb.size
    have Hrd := Lib.hid hrd
    clear hrd Hr7
    go_wp2_with fail
    go_loopw [11] (fun i wr => ∃ k : Nat, k ≤ f.length ∧ i = .int .i64 k ∧ Hid (Below w7.heap.size w7 wr)) (fun i _ => f.length - (intOf i).toNat)
    case atStart => exact ⟨0, Nat.zero_le _, rfl, Lib.hid (Below.refl _ _)⟩
    case round =>
      obtain ⟨k, hk, rfl, hb⟩ := hrel
      by_cases hlt : k < f.length
      · obtain ⟨wo, rfl⟩ : ∃ wo : World, wo = wr := ⟨_, rfl⟩
        have Hb := Lib.hid hb.out
        clear hb
        have hlt0 : (k : Int) < (f.length : Int) := by omega
        have hk0 : (0 : Int) ≤ (k : Int) := by omega
        go_wp2_with fail
        go_loopw [12, 13] (fun u i wr => ∃ m : Nat, m ≤ f.length ∧ i = .int .i64 m ∧ Hid (u = .bool (wantB f a ch k m && fitsC (at_ f (k : Int)) b)) ∧ Hid (Below wo.heap.size wo wr)) (fun _ i _ => f.length - (intOf i).toNat)
        case atStart => exact ⟨0, Nat.zero_le _, rfl, Lib.hid rfl, Lib.hid (Below.refl _ _)⟩
        case round =>
          obtain ⟨m, hmk, rfl, hu, hbi⟩ := hrel
          by_cases hml : m < f.length
          · have hup := bthen Hb.out hbi.out
            obtain ⟨va1, vk1, ⟨_, _, _, rfl⟩, ⟨_, _, _, rfl⟩, hc1, hf1⟩ := fits_at (Hrd.out wr hup) Hsm.out hml
            obtain ⟨va2, vk2, ⟨_, _, _, rfl⟩, ⟨_, _, _, rfl⟩, hc2, hf2⟩ := fits_at (Hrd.out wr hup) Hsm.out hlt
            have hr := fun w' (hb : Below wr.heap.size wr w') => Hra.out w' (bthen Hb7.out (bthen hup hb))
            have hr2 := fun w' (hb : Below wr.heap.size wr w') => Hrb.out w' (bthen Hb7.out (bthen hup hb))
            have hbl := fun w' (hb : Below wr.heap.size wr w') => FBelow.Below_calls w' _ f (m : Int) (k : Int) (Hrd.out w' (bthen hup hb)) (fun n hn => by have := Work.may_kids Hm.out n hn; omega)
            have hfa := fun w' hb => hf1 w' hb _ a (hr w' hb) Hsma.out.1
            have hfb := fun w' hb => hf2 w' hb _ b (hr2 w' hb) Hsma.out.2.1
            obtain ⟨x0, x1, x2, x3, x4, x5⟩ := hc1 wr (Below.refl _ _)
            obtain ⟨y0, y1, y2, y3, y4, y5⟩ := hc2 wr (Below.refl _ _)
            have hwn := wantB_succ f a ch (k : Int) m
            unfold SoPost at hfa hfb
            have hm0 : (m : Int) < (f.length : Int) := by omega
            have hm00 : (0 : Int) ≤ (m : Int) := by omega
            cases hfit : fitsC (at_ f (m : Int)) a with
            | false =>
              rw [hfit] at hfa
              have hnx : wantB f a ch k (m + 1) = wantB f a ch k m := by rw [hwn]; unfold condD; rw [hfit]; simp
              have Hnx := Lib.hid hnx; have Hfa := Lib.hid hfa; have Hfb := Lib.hid hfb; have Hbl := Lib.hid hbl; have Hc2 := Lib.hid hc2
              clear hnx hfa hfb hbl hc2 hc1 hf1 hf2 hr hr2 hwn hfit
              go_wp2_with (first | (go_at_call 45; first | ((with_reducible refine (Hfa.out _ (Below.refl _ _)).mono ?_); rintro e w9 ⟨rfl, hb9⟩; have Hb9 := Lib.hid hb9; clear hb9) | ((with_reducible refine (Hfb.out _ Hb10.out).mono ?_); rintro e w11 ⟨rfl, hb11⟩; have Hb11 := Lib.hid (bthen Hb10.out hb11); clear hb11)) | (go_at_call 49; (with_reducible refine (Hbl.out _ Hb9.out).mono ?_); rintro e w10 ⟨rfl, hb10⟩; obtain ⟨z0, z1, z2, z3, z4, z5⟩ := Hc2.out _ (bthen Hb9.out hb10); have Hb10 := Lib.hid (bthen Hb9.out hb10); clear hb10))
              go_roundw
              case rel => exact ⟨m + 1, by omega, by go_num, Lib.hid (by rw [Hnx.out]; exact hu.out), Lib.hid (bthen hbi.out Hb9.out)⟩
              case measure => simp [intOf]; omega
            | true =>
              rw [hfit] at hfa
              by_cases hmk2 : m = k
              · have hq1 : ((m : Int) == (k : Int)) = true := by rw [beq_iff_eq]; omega
                have hq2 : ((m : Int) != (k : Int)) = false := by rw [bne, hq1]; rfl
                have hnx : wantB f a ch k (m + 1) = wantB f a ch k m := by rw [hwn]; unfold condD; rw [decide_eq_false (show ¬ ((m : Int) ≠ (k : Int)) by omega)]; simp
                clear hmk2
                have Hnx := Lib.hid hnx; have Hfa := Lib.hid hfa; have Hfb := Lib.hid hfb; have Hbl := Lib.hid hbl; have Hc2 := Lib.hid hc2
                clear hnx hfa hfb hbl hc2 hc1 hf1 hf2 hr hr2 hwn hfit
                go_wp2_with (first | (go_at_call 45; first | ((with_reducible refine (Hfa.out _ (Below.refl _ _)).mono ?_); rintro e w9 ⟨rfl, hb9⟩; have Hb9 := Lib.hid hb9; clear hb9) | ((with_reducible refine (Hfb.out _ Hb10.out).mono ?_); rintro e w11 ⟨rfl, hb11⟩; have Hb11 := Lib.hid (bthen Hb10.out hb11); clear hb11)) | (go_at_call 49; (with_reducible refine (Hbl.out _ Hb9.out).mono ?_); rintro e w10 ⟨rfl, hb10⟩; obtain ⟨z0, z1, z2, z3, z4, z5⟩ := Hc2.out _ (bthen Hb9.out hb10); have Hb10 := Lib.hid (bthen Hb9.out hb10); clear hb10))
                go_roundw
                case rel => exact ⟨m + 1, by omega, by go_num, Lib.hid (by rw [Hnx.out]; exact hu.out), Lib.hid (bthen hbi.out Hb9.out)⟩
                case measure => simp [intOf]; omega
              · have hq1 : ((m : Int) == (k : Int)) = false := by rw [beq_eq_false_iff_ne]; omega
                have hq2 : ((m : Int) != (k : Int)) = true := by rw [bne, hq1]; rfl
                have hne : decide ((m : Int) ≠ (k : Int)) = true := decide_eq_true (by omega)
                clear hmk2
                cases hbw : belowB f m k with
                | false =>
                  simp only [hbw] at hbl
                  have hnx : wantB f a ch k (m + 1) = wantB f a ch k m := by rw [hwn]; unfold condD; rw [hbw]; simp
                  clear hne hbw
                  have Hnx := Lib.hid hnx; have Hfa := Lib.hid hfa; have Hfb := Lib.hid hfb; have Hbl := Lib.hid hbl; have Hc2 := Lib.hid hc2
                  clear hnx hfa hfb hbl hc2 hc1 hf1 hf2 hr hr2 hwn hfit
                  go_wp2_with (first | (go_at_call 45; first | ((with_reducible refine (Hfa.out _ (Below.refl _ _)).mono ?_); rintro e w9 ⟨rfl, hb9⟩; have Hb9 := Lib.hid hb9; clear hb9) | ((with_reducible refine (Hfb.out _ Hb10.out).mono ?_); rintro e w11 ⟨rfl, hb11⟩; have Hb11 := Lib.hid (bthen Hb10.out hb11); clear hb11)) | (go_at_call 49; (with_reducible refine (Hbl.out _ Hb9.out).mono ?_); rintro e w10 ⟨rfl, hb10⟩; obtain ⟨z0, z1, z2, z3, z4, z5⟩ := Hc2.out _ (bthen Hb9.out hb10); have Hb10 := Lib.hid (bthen Hb9.out hb10); clear hb10))
                  go_roundw
                  case rel => exact ⟨m + 1, by omega, by go_num, Lib.hid (by rw [Hnx.out]; exact hu.out), Lib.hid (bthen hbi.out Hb10.out)⟩
                  case measure => simp [intOf]; omega
                | true =>
                  simp only [hbw] at hbl
                  cases hch : ch with
                  | false =>
                    subst hch
                    have hnx : wantB f a false k (m + 1) = true := by rw [hwn]; unfold condD; rw [hfit, hne, hbw]; simp
                    clear hne hbw
                    have Hnx := Lib.hid hnx; have Hfa := Lib.hid hfa; have Hfb := Lib.hid hfb; have Hbl := Lib.hid hbl; have Hc2 := Lib.hid hc2
                    clear hnx hfa hfb hbl hc2 hc1 hf1 hf2 hr hr2 hwn hfit
                    go_wp2_with (first | (go_at_call 45; first | ((with_reducible refine (Hfa.out _ (Below.refl _ _)).mono ?_); rintro e w9 ⟨rfl, hb9⟩; have Hb9 := Lib.hid hb9; clear hb9) | ((with_reducible refine (Hfb.out _ Hb10.out).mono ?_); rintro e w11 ⟨rfl, hb11⟩; have Hb11 := Lib.hid (bthen Hb10.out hb11); clear hb11)) | (go_at_call 49; (with_reducible refine (Hbl.out _ Hb9.out).mono ?_); rintro e w10 ⟨rfl, hb10⟩; obtain ⟨z0, z1, z2, z3, z4, z5⟩ := Hc2.out _ (bthen Hb9.out hb10); have Hb10 := Lib.hid (bthen Hb9.out hb10); clear hb10))
                    go_roundw
                    case rel => exact ⟨m + 1, by omega, by go_num, Lib.hid (by rw [Hnx.out, Bool.true_and]), Lib.hid (bthen hbi.out Hb11.out)⟩
                    case measure => simp [intOf]; omega
                  | true =>
                    subst hch
                    by_cases hp : (at_ f (k : Int)).parent = (m : Int)
                    · have hq3 : ((at_ f (k : Int)).parent == (m : Int)) = true := by rw [beq_iff_eq]; exact hp
                      have hnx : wantB f a true k (m + 1) = true := by rw [hwn]; unfold condD; rw [hfit, hne, hbw, decide_eq_true hp]; simp
                      clear hne hbw hp
                      have Hnx := Lib.hid hnx; have Hfa := Lib.hid hfa; have Hfb := Lib.hid hfb; have Hbl := Lib.hid hbl; have Hc2 := Lib.hid hc2
                      clear hnx hfa hfb hbl hc2 hc1 hf1 hf2 hr hr2 hwn hfit
                      go_wp2_with (first | (go_at_call 45; first | ((with_reducible refine (Hfa.out _ (Below.refl _ _)).mono ?_); rintro e w9 ⟨rfl, hb9⟩; have Hb9 := Lib.hid hb9; clear hb9) | ((with_reducible refine (Hfb.out _ Hb10.out).mono ?_); rintro e w11 ⟨rfl, hb11⟩; have Hb11 := Lib.hid (bthen Hb10.out hb11); clear hb11)) | (go_at_call 49; (with_reducible refine (Hbl.out _ Hb9.out).mono ?_); rintro e w10 ⟨rfl, hb10⟩; obtain ⟨z0, z1, z2, z3, z4, z5⟩ := Hc2.out _ (bthen Hb9.out hb10); have Hb10 := Lib.hid (bthen Hb9.out hb10); clear hb10))
                      go_roundw
                      case rel => exact ⟨m + 1, by omega, by go_num, Lib.hid (by rw [Hnx.out, Bool.true_and]), Lib.hid (bthen hbi.out Hb11.out)⟩
                      case measure => simp [intOf]; omega
                    · have hq3 : ((at_ f (k : Int)).parent == (m : Int)) = false := by rw [beq_eq_false_iff_ne]; exact hp
                      have hnx : wantB f a true k (m + 1) = wantB f a true k m := by rw [hwn]; unfold condD; rw [decide_eq_false hp]; simp
                      clear hne hbw hp
                      have Hnx := Lib.hid hnx; have Hfa := Lib.hid hfa; have Hfb := Lib.hid hfb; have Hbl := Lib.hid hbl; have Hc2 := Lib.hid hc2
                      clear hnx hfa hfb hbl hc2 hc1 hf1 hf2 hr hr2 hwn hfit
                      go_wp2_with (first | (go_at_call 45; first | ((with_reducible refine (Hfa.out _ (Below.refl _ _)).mono ?_); rintro e w9 ⟨rfl, hb9⟩; have Hb9 := Lib.hid hb9; clear hb9) | ((with_reducible refine (Hfb.out _ Hb10.out).mono ?_); rintro e w11 ⟨rfl, hb11⟩; have Hb11 := Lib.hid (bthen Hb10.out hb11); clear hb11)) | (go_at_call 49; (with_reducible refine (Hbl.out _ Hb9.out).mono ?_); rintro e w10 ⟨rfl, hb10⟩; obtain ⟨z0, z1, z2, z3, z4, z5⟩ := Hc2.out _ (bthen Hb9.out hb10); have Hb10 := Lib.hid (bthen Hb9.out hb10); clear hb10))
                      go_roundw
                      case rel => exact ⟨m + 1, by omega, by go_num, Lib.hid (by rw [Hnx.out]; exact hu.out), Lib.hid (bthen hbi.out Hb10.out)⟩
                      case measure => simp [intOf]; omega
          · obtain rfl : m = f.length := by omega
            have hup := bthen Hb.out hbi.out
            have his := Is_calls wr _ f (Hrd.out wr hup) Hm.out Hsm.out (k : Int) _ _ (Hrl.out wr (bthen Hb7.out hup)) Hsma.out.2.2
            rw [two_is Hm.out hlt] at his
            have hu' := hu.out
            obtain ⟨X, hX⟩ : ∃ X, X = (wantB f a ch k f.length && fitsC (at_ f (k : Int)) b) := ⟨_, rfl⟩
            rw [← hX] at hu'
            simp only [← hX] at his
            subst hu'
            have His := Lib.hid his
            clear his hu hX
            cases X
            all_goals
              go_wp2_with (go_at_call 43; (with_reducible refine (His.out).mono ?_); rintro e w12 ⟨rfl, hb12⟩; have Hb12 := Lib.hid hb12; clear hb12)
              go_roundw
            case rel => exact ⟨k + 1, by omega, by go_num, Lib.hid (bthen Hb.out (bthen hbi.out Hb12.out))⟩
            case measure => simp [intOf]; omega
            case rel => exact ⟨k + 1, by omega, by go_num, Lib.hid (bthen Hb.out (bthen hbi.out Hb12.out))⟩
            case measure => simp [intOf]; omega
      · obtain rfl : k = f.length := by omega
        have hpos : 0 < (f.length : Int) := by omega
        go_wp2_with fail
        go_ret
        exact ⟨ret_bool (by simp; omega), bthen HB2.out (bthen Hb7.out hb.out)⟩
  · have hno : bndO l = false ∨ (bndO l = true ∧ fewB [[{ c := a }, { c := b, child := ch }]] = false) := by
      cases h1 : bndO l <;> cases h2 : fewB [[{ c := a }, { c := b, child := ch }]] <;> simp_all
    rcases hno with hx | ⟨hx, hy⟩
    · rw [hx] at hbn
      have Hbn := Lib.hid hbn
      clear hbn hfw hx hB
      go_enter Tryz.func14, Tryz.ntmps14
      go_upto_region 2 with fail
      rw [HW2.out]
      go_wp2_with (first | (go_at_call 32; (with_reducible refine (Hbn.out).mono ?_); rintro e w5 ⟨rfl, rfl⟩; clear Hbn) | (go_at_call 34; (with_reducible refine (Fi.shown_calls _).mono ?_); rintro e w6 ⟨rfl, hb6⟩; have Hb6 := Lib.hid hb6; clear hb6))
      go_ret
      exact ⟨rfl, bthen HB2.out Hb6.out⟩
    · rw [hx] at hbn
      rw [hy] at hfw
      have Hbn := Lib.hid hbn; have Hfw := Lib.hid hfw
      clear hbn hfw hx hy hB
      go_enter Tryz.func14, Tryz.ntmps14
      go_upto_region 2 with fail
      rw [HW2.out]
      go_wp2_with (first | (go_at_call 32; (with_reducible refine (Hbn.out).mono ?_); rintro e w5 ⟨rfl, rfl⟩; clear Hbn) | (go_at_call 33; (with_reducible refine (Hfw.out).mono ?_); rintro e w5 ⟨rfl, rfl⟩; clear Hfw) | (go_at_call 34; (with_reducible refine (Fi.shown_calls _).mono ?_); rintro e w6 ⟨rfl, hb6⟩; have Hb6 := Lib.hid hb6; clear hb6))
      go_ret
      exact ⟨rfl, bthen HB2.out Hb6.out⟩
end Go.Proofs.YthdenkkllpkplaaGreat.LBelow
end
section
/- The selector of an id: what it is, and whom it finds. No program. -/
namespace Go.Proofs.YthdenkkllpkplaaGreat.Fi
open Go Go.RowKit Go.Proofs.YthdenkkllpkplaaGreat.WS Go.Proofs.YthdenkkllpkplaaGreat.FS Go.Proofs.YthdenkkllpkplaaGreat.Fn Go.Proofs.YthdenkkllpkplaaGreat.Pa Go.Proofs.YthdenkkllpkplaaGreat.Grown
set_option linter.unusedVariables false
theorem comp_pre {s : ByteArray} {b : Nat} : ∀ (n : Nat) (c : List Tst) (a : Nat) {x : List Tst × Nat}, compLoop s b n c a = .ok x → ∃ r, x.1 = c ++ r
  | 0, c, a, x, h => by rw [compLoop] at h; cases h
  | n + 1, c, a, x, h => by
    rw [compLoop] at h
    have key : ∀ (t : Tst) (a' : Nat), compLoop s b n (c ++ [t]) a' = .ok x → ∃ r, x.1 = c ++ r := fun t a' h' => by
      obtain ⟨r, hr⟩ := comp_pre n _ _ h'
      exact ⟨t :: r, by rw [hr, List.append_assoc]; rfl⟩
    split at h
    · split at h
      · cases h
      · exact key _ _ h
    · split at h
      · split at h
        · cases h
        · exact key _ _ h
      · split at h
        · split at h
          · cases h
          · exact key _ _ h
        · split at h
          · cases h
          · injection h with h
            subst h
            exact ⟨[], by rw [List.append_nil]⟩
theorem row_pre {s : ByteArray} : ∀ (n : Nat) (l : Sro) (ch : Bool) (a : Nat) {x : Sro × Nat}, rowLoop s n l ch a = .ok x → ∃ y r, compoundP s a = .ok y ∧ x.1 = l ++ { c := y.1, child := ch } :: r
  | 0, l, ch, a, x, h => by rw [rowLoop] at h; cases h
  | n + 1, l, ch, a, x, h => by
    rw [rowLoop] at h
    cases hN : compoundP s a with
    | error e => rw [hN] at h; cases h
    | ok y =>
      rw [hN] at h
      simp only at h
      split at h
      · injection h with h
        subst h
        exact ⟨y, [], rfl, rfl⟩
      · split at h
        · obtain ⟨_, r, _, hr⟩ := row_pre n _ _ _ h
          exact ⟨y, _ :: r, rfl, by rw [hr, List.append_assoc]; rfl⟩
        · split at h
          · obtain ⟨_, r, _, hr⟩ := row_pre n _ _ _ h
            exact ⟨y, _ :: r, rfl, by rw [hr, List.append_assoc]; rfl⟩
          · cases h
theorem parse_pre {s : ByteArray} : ∀ (n : Nat) (l : Sel) (a : Nat) {x : Sel}, parseLoop s n l a = .ok x → ∃ y r, rowP s a = .ok y ∧ x = l ++ y.1 :: r
  | 0, l, a, x, h => by rw [parseLoop] at h; cases h
  | n + 1, l, a, x, h => by
    rw [parseLoop] at h
    cases hN : rowP s a with
    | error e => rw [hN] at h; cases h
    | ok y =>
      rw [hN] at h
      simp only at h
      split at h
      · obtain ⟨_, r, _, hr⟩ := parse_pre n _ _ h
        exact ⟨y, _ :: r, rfl, by rw [hr, List.append_assoc]; rfl⟩
      · injection h with h
        subst h
        exact ⟨y, [], rfl, rfl⟩
/-- What begins with a # and is one test is a test of an id, of a name that is none of no byte. -/
theorem id_parse {s : ByteArray} {t : Tst} {ch : Bool} (h0 : 0 < s.size) (h35 : nextB s 0 = 35) (h : parseP s = .ok [[{ c := [t], child := ch }]]) : t.kind = 2 ∧ 0 < t.name.size := by
  unfold parseP at h
  obtain ⟨y, r, hy, he⟩ := parse_pre _ _ _ h
  rw [List.nil_append] at he
  injection he with he1 he2
  unfold rowP at hy
  rw [end_stop (a := 0) (by rw [h35]; exact fun hx => absurd hx.2 (by decide))] at hy
  obtain ⟨z, r', hz, he3⟩ := row_pre _ _ _ _ hy
  rw [← he1, List.nil_append] at he3
  injection he3 with he4 he5
  injection he4 with he6 he7
  unfold compoundP at hz
  rw [if_neg (by unfold tookB; rw [h35, decide_eq_true h0]; decide), if_neg (by rw [h35]; decide), show s.size + 1 - 0 = s.size + 1 by omega, compLoop, if_neg (by rw [h35]; decide), if_pos h35] at hz
  split at hz
  · cases hz
  · rename_i x hx
    obtain ⟨r2, hr2⟩ := comp_pre _ _ _ hz
    rw [← he6, List.nil_append] at hr2
    injection hr2 with hr3 hr4
    subst hr3
    refine ⟨rfl, ?_⟩
    have ho := name_ok hx (by omega)
    unfold nameP at hx
    split at hx
    · split at hx
      · injection hx with hx
        subst hx
        simp only at ho ⊢
        rw [ByteArray.size_extract]
        omega
      · cases hx
    · cases hx
/-- Whom a selector of an id finds is who has it. -/
theorem id_hit {f : Fo} (hm : mayB f = true) {k : Int} (hk : isNode f k = true) {t : Tst} {ch : Bool} (h2 : t.kind = 2) (h0 : 0 < t.name.size) : isS f k [[{ c := [t], child := ch }]] = hitB f t.name k := by
  obtain ⟨i, rfl, hi⟩ := node_nat hk
  rw [one_is hm hi]
  have hne : t.name.size ≠ 0 := by omega
  unfold fitsC hitB attrVal attrErr
  rw [hk]
  simp only [List.all_cons, List.all_nil, Bool.and_true, if_false, decide_eq_true hne, Bool.true_eq_false]
  unfold soB
  rw [if_neg (by omega), if_pos h2]
  have hv : attrV f i idN = valA (at_ f i).attrs idS := rfl
  rw [hv]
  by_cases h1 : (at_ f (i : Int)).kind = 1
  · rw [decide_eq_true h1]
    simp only [h1, ne_eq, not_true_eq_false, if_false, Bool.true_and]
    cases hx : valA (at_ f (i : Int)).attrs idS with
    | none => simp
    | some v => simp
  · simp [h1]
theorem id_find {f : Fo} (hm : mayB f = true) {t : Tst} {ch : Bool} (h2 : t.kind = 2) (h0 : 0 < t.name.size) : (Wk.orderL f 0).find? (fun k => isS f k [[{ c := [t], child := ch }]]) = byId f t.name := by
  have hmay := may_is hm
  have hn : isNode f 0 = true := nodeI (i := 0) (by have := hmay.len; omega)
  unfold byId Wk.orderL
  rw [if_pos hn]
  have : ∀ l : List Int, (∀ k ∈ l, isNode f k = true) → l.find? (fun k => isS f k [[{ c := [t], child := ch }]]) = l.find? (hitB f t.name) := fun l => by
    induction l with
    | nil => intro _; rfl
    | cons x l ih =>
      intro hl
      rw [List.find?_cons, List.find?_cons, id_hit hm (hl x (by simp)) h2 h0, ih (fun k hk => hl k (by simp [hk]))]
  exact this _ (fun k hk => ((order_mem hmay hn k).1 hk).1)
end Go.Proofs.YthdenkkllpkplaaGreat.Fi
end
section
/- walk: ById. -/
namespace Go.Proofs.YthdenkkllpkplaaGreat.Wk
open Go Go.RowKit Go.Shelf Go.Proofs.YthdenkkllpkplaaGreat.Seq Go.Proofs.YthdenkkllpkplaaGreat.SeqR Go.Proofs.YthdenkkllpkplaaGreat.WS Go.Proofs.YthdenkkllpkplaaGreat.FS Go.Proofs.YthdenkkllpkplaaGreat.Mem Go.Proofs.YthdenkkllpkplaaGreat.Rd Go.Proofs.YthdenkkllpkplaaGreat.Shapes Go.Proofs.YthdenkkllpkplaaGreat.Word Go.Proofs.YthdenkkllpkplaaGreat.FFam Go.Proofs.YthdenkkllpkplaaGreat.Thr
set_option linter.unusedVariables false
set_option linter.unusedSimpArgs false
attribute [local go_sem] Oper.semAt_some Thr.wide_fn Thr.wide_depth Thr.wide_round

def byIdV (f : Fo) (o : Option Int) : Int × Int := match o with | some k => (k, 0) | none => (0, 3)
noncomputable def ByIdPost (f : Fo) (text : ByteArray) (w : World) (e : Ending) (w' : World) : Prop := e = .returned (.tuple #[.int .i64 (byIdV f (byId f text)).1, .int .i64 (byIdV f (byId f text)).2]) ∧ Below w.heap.size w w'
def idI (S : Nat) (fv : Value) (f : Fo) (text : ByteArray) (m : Nat) (X : Nat → Prop) (W : World) : Prop :=
  RdF (S + 2) W fv f ∧ W.heap[S]? = some (.cells #[fv] 28 (0, 0)) ∧ W.heap[S + 1]? = some (.cells #[.string text] 9 (0, 0)) ∧ W.heap[S + 2]? = some (.cells #[.int .i64 0] 3 (0, 0)) ∧ W.heap[S + 3]? = some (.cells #[.int .i64 0] 30 (0, 0)) ∧
    (∀ b, X b ↔ (b = S + 2 ∨ b = S + 3)) ∧ ∀ k ∈ (order f 0).take m, hitB f text k = false
def idX (S : Nat) (f : Fo) (text : ByteArray) (c : Code) (m : Nat) (X : Nat → Prop) (W : World) : Prop :=
  c = .ret ∧ ∃ x, W.heap[S + 2]? = some (.cells #[.int .i64 x] 3 (0, 0)) ∧ W.heap[S + 3]? = some (.cells #[.int .i64 0] 30 (0, 0)) ∧ (∀ b, X b ↔ (b = S + 2 ∨ b = S + 3)) ∧ byId f text = some x
theorem idI_foot (S : Nat) (fv : Value) (f : Fo) (text : ByteArray) : FootR (fun b => b < S + 2) (idI S fv f text) := by
  refine ⟨?_, ?_⟩
  · rintro m X W W' ⟨h1, h2, h3, h4, h5, h6, h7⟩ ho
    have hl := lt_heap h5
    refine ⟨h1.keep nodeE_keeps (ho.toBelow (by omega) (fun b hb => by have : ¬ b < S + 2 := hb.2; omega)) (Nat.le_refl _), ho.keep h2 (fun h => h.2 (by show S < S + 2; omega)), ho.keep h3 (fun h => h.2 (by show S + 1 < S + 2; omega)), ho.keep h4 (fun h => h.1 ((h6 _).2 (.inl rfl))), ho.keep h5 (fun h => h.1 ((h6 _).2 (.inr rfl))), h6, h7⟩
  · rintro m X W b ⟨h1, h2, h3, h4, h5, h6, h7⟩ hb
    rcases (h6 b).1 hb with rfl | rfl
    · exact lt_heap h4
    · exact lt_heap h5
theorem idX_foot (S : Nat) (f : Fo) (text : ByteArray) (c : Code) : FootR (fun b => b < S + 2) (idX S f text c) := by
  refine ⟨?_, ?_⟩
  · rintro m X W W' ⟨hc, x, h4, h5, h6, h7⟩ ho
    exact ⟨hc, x, ho.keep h4 (fun h => h.1 ((h6 _).2 (.inl rfl))), ho.keep h5 (fun h => h.1 ((h6 _).2 (.inr rfl))), h6, h7⟩
  · rintro m X W b ⟨hc, x, h4, h5, h6, h7⟩ hb
    rcases (h6 b).1 hb with rfl | rfl
    · exact lt_heap h4
    · exact lt_heap h5
theorem byId_hit {f : Fo} {text : ByteArray} {m : Nat} (hm : m < (order f 0).length) (hn : ∀ k ∈ (order f 0).take m, hitB f text k = false) (hh : hitB f text (order f 0)[m] = true) : byId f text = some (order f 0)[m] := by
  unfold byId
  have e : (order f 0).find? (hitB f text) = ((order f 0).take m ++ (order f 0).drop m).find? (hitB f text) := by rw [List.take_append_drop]
  rw [e, List.find?_append, List.drop_eq_getElem_cons hm, List.find?_eq_none.2 (fun k hk => by rw [hn k hk]; simp), List.find?_cons_of_pos hh]
  simp
theorem empty_dec (t : ByteArray) : (!t.toList.isEmpty) = decide (t.size ≠ 0) := by
  rw [Lib.toList_data, Lib.size_eq]
  cases h : t.data.toList <;> simp
/-- A round that does not hit. -/
theorem idI_next {S : Nat} {fv : Value} {f : Fo} {text : ByteArray} {m : Nat} {X : Nat → Prop} {W w6 : World} (hI : idI S fv f text m X W) (hb : Below W.heap.size W w6) (x : Int) (hnx : (order f 0).take (m + 1) = (order f 0).take m ++ [x]) (hx : hitB f text x = false) :
    Off X W w6 ∧ idI S fv f text (m + 1) X w6 := by
  obtain ⟨h1, h2, h3, h4, h5, h6, h7⟩ := hI
  have hlt := lt_heap h5
  refine ⟨Off.below hb (fun b h h' => by omega), h1.keep nodeE_keeps (hb.mono (by omega)) (Nat.le_refl _), (hb.block _ (by omega)).trans h2, (hb.block _ (by omega)).trans h3, (hb.block _ (by omega)).trans h4, (hb.block _ (by omega)).trans h5, h6, ?_⟩
  intro k hk
  rw [hnx] at hk
  rcases List.mem_append.1 hk with hk | hk
  · exact h7 k hk
  · rw [List.mem_singleton.1 hk]; exact hx
theorem byId_none {f : Fo} {text : ByteArray} (hn : ∀ k ∈ order f 0, hitB f text k = false) : byId f text = none := by
  unfold byId
  exact List.find?_eq_none.2 (fun k hk => by rw [hn k hk]; simp)
set_option maxRecDepth 100000 in
set_option maxHeartbeats 4000000 in
theorem ById_calls (w : World) (v : Value) (f : Fo) (h : RdF w.heap.size w v f) (hm : mayB f = true) (text : ByteArray) : Calls Tryz.prog 50 #[v, .string text] w (ByIdPost f text w) := by
  obtain ⟨A0, c0, rfl, hl0, hc0, h'⟩ := h.form
  simp only [maxLen] at hc0
  have hl60 := (may_is hm).len
  have hn : isNode f 0 = true := (node_iff f 0).2 ⟨by omega, by omega⟩
  obtain ⟨w2, hw2⟩ : ∃ w2, (((w.alloc (.cells #[.slice A0 f.length c0] 28)).alloc (.cells #[.string text] 9)).alloc (.cells #[.int .i64 0] 3)).alloc (.cells #[.int .i64 0] 30) = w2 := ⟨_, rfl⟩
  have hs2 : w2.heap.size = w.heap.size + 4 := by rw [← hw2]; simp
  have p0 : w2.heap[w.heap.size]? = some (.cells #[.slice A0 f.length c0] 28 (0, 0)) := by rw [← hw2]; exact heap_old (heap_old (heap_old (World.alloc_heap_new _ _)))
  have p1 : w2.heap[w.heap.size + 1]? = some (.cells #[.string text] 9 (0, 0)) := by rw [← hw2]; exact heap_old (heap_old (heap_new (by simp)))
  have p2 : w2.heap[w.heap.size + 2]? = some (.cells #[.int .i64 0] 3 (0, 0)) := by rw [← hw2]; exact heap_old (heap_new (by simp))
  have p3 : w2.heap[w.heap.size + 3]? = some (.cells #[.int .i64 0] 30 (0, 0)) := by rw [← hw2]; exact heap_new (by simp)
  have hb2 : Below w.heap.size w w2 := by rw [← hw2]; exact ((((Below.refl _ _).alloc (Nat.le_refl _) _).alloc (by simp) _).alloc (by simp; omega) _).alloc (by simp; omega) _
  have hr2 : RdF w.heap.size w2 (.slice A0 f.length c0) f := h'.below nodeE_keeps hb2 (Nat.le_refl _)
  have hc2 := cell_of p0
  have Hw2 := Lib.hid hw2
  clear hw2 h h'
  refine (callsIn_wide (n := 0)).1 ?_
  refine callsIn_of_wp_marks Tryz.func50 rfl trivial ?_ rfl
  simp only [Tryz.ntmps50, List.size_toArray, List.length_cons, List.length_nil, Nat.reduceAdd, Nat.reduceSub, Array.replicate_succ, Array.replicate_zero, List.push_toArray, List.append_toArray, List.nil_append, List.cons_append]
  gi_upto_region 1 with fail
  rw [Hw2.out]
  gi_wp2_with (gi_at_call 92; (refine (callsIn_wide.2 (through_calls _ _ _ _ _)).mono ?_); rintro e w5 ⟨rfl, hw5⟩)
  have hz5 : w5.heap.size = w.heap.size + 6 := by rw [← hw5]; simp; omega
  have q0 : w5.heap[w.heap.size]? = some (.cells #[.slice A0 f.length c0] 28 (0, 0)) := by rw [← hw5]; exact heap_old (heap_old p0)
  have q1 : w5.heap[w.heap.size + 1]? = some (.cells #[.string text] 9 (0, 0)) := by rw [← hw5]; exact heap_old (heap_old p1)
  have q2 : w5.heap[w.heap.size + 2]? = some (.cells #[.int .i64 0] 3 (0, 0)) := by rw [← hw5]; exact heap_old (heap_old p2)
  have q3 : w5.heap[w.heap.size + 3]? = some (.cells #[.int .i64 0] 30 (0, 0)) := by rw [← hw5]; exact heap_old (heap_old p3)
  have qf : w5.heap[w.heap.size + 4]? = some (.cells #[.slice A0 f.length c0] 28 (0, 0)) := by rw [← hw5, ← hs2]; exact heap_old (World.alloc_heap_new w2 _)
  have qi : w5.heap[w.heap.size + 4 + 1]? = some (.cells #[.int .i64 0] 3 (0, 0)) := by
    rw [← hw5, ← hs2]
    have := World.alloc_heap_new (w2.alloc (.cells #[.slice A0 f.length c0] 28)) (.cells #[.int .i64 0] 3)
    rwa [World.size_alloc] at this
  have hb25 : Below w2.heap.size w2 w5 := by rw [← hw5]; exact ((Below.refl _ _).alloc (Nat.le_refl _) _).alloc (by simp) _
  have hb5 : Below w.heap.size w w5 := bthen hb2 hb25
  have hr5 : RdF (w.heap.size + 2) w5 (.slice A0 f.length c0) f := (hr2.keep nodeE_keeps (hb25.mono (by omega)) (Nat.le_refl _)).mono nodeE_keeps (by omega)
  have hall : ∀ x ∈ order f 0, isNode f x = true := fun x hx => ((order_mem (may_is hm) hn x).1 hx).1
  have Hall := Lib.hid hall; have Hb5 := Lib.hid hb5; have Hz5 := Lib.hid hz5
  clear hw5 hall hb25 hb5 hb2 hr2 hc2 Hw2 p0 p1 p2 p3
  refine wpIn_rangeR rfl (enters_of Tryz.func162 (by kernel_rfl) rfl) (through_seqR f hm 0 hn (by decide) (w.heap.size + 2) (w.heap.size + 4 + 1) (w.heap.size + 4) (by omega) (by omega) (.slice A0 f.length c0))
    (fun W ho => ⟨ho.keep qi (fun h => h), ho.keep qf (fun h => h), hr5.keep nodeE_keeps (ho.toBelow (by omega) (fun b hb => hb.elim)) (Nat.le_refl _), by have := ho.size; omega⟩)
    (idI w.heap.size (.slice A0 f.length c0) f text) (idX w.heap.size f text) (idI_foot _ _ _ _) (idX_foot _ _ _) (fun b => b = w.heap.size + 2 ∨ b = w.heap.size + 3)
    (fun b hb => ⟨fun h => h, fun h => by omega⟩)
    ⟨hr5, q0, q1, q2, q3, fun b => Iff.rfl, by simp⟩
    (fun b h => by rcases h with h | h | h | h; exact h.elim; omega; omega; omega) (fun b hb => by have : b < w.heap.size + 2 := hb; omega)
    (fun m => { tmps := #[.slice A0 f.length c0, .string text, .pointer (some ⟨w.heap.size, 0, none⟩), .pointer (some ⟨w.heap.size + 1, 0, none⟩), .pointer (some ⟨w.heap.size + 1 + 1, 0, none⟩), .pointer (some ⟨w.heap.size + 1 + 1 + 1, 0, none⟩), ((order f 0).map (Value.int .i64)).getD m undef, undef, undef, .slice A0 f.length c0,
      .func (.func 162) #[] #[.pointer (some ⟨w.heap.size + 4 + 1, 0, none⟩), .pointer (some ⟨w.heap.size + 4, 0, none⟩)], ((order f 0).map (Value.int .i64)).getD m undef, undef, undef, undef, undef, undef, undef, undef, undef, undef, undef, undef, undef, undef, undef, undef, undef, undef, undef], defers := [] })
    ?assign ?body ?done ?stop
  case assign =>
    intro l m hm' W K hK
    rw [show ((order f 0).map (Value.int .i64)).getD m undef = ((order f 0).map (Value.int .i64))[m] by rw [List.getD_eq_getElem?_getD, List.getElem?_eq_getElem hm']; rfl] at hK
    generalize ((order f 0).map (Value.int .i64))[m] = x at *
    gi_wp2
    exact hK
  case body =>
    rintro l m hm' X' W' ⟨h1, h2, h3, h4, h5, h6, h7⟩
    have hmo : m < (order f 0).length := by simpa using hm'
    rw [show ((order f 0).map (Value.int .i64)).getD m undef = .int .i64 (order f 0)[m] by rw [List.getD_eq_getElem?_getD, List.getElem?_eq_getElem hm']; simp]
    have hnx : (order f 0).take (m + 1) = (order f 0).take m ++ [(order f 0)[m]] := List.take_succ_eq_append_getElem hmo
    have hhit := byId_hit (text := text) hmo h7
    have hat := Attr_calls W' _ f (h1.mono nodeE_keeps (by have := lt_heap h5; omega)) (order f 0)[m] idN
    have hc0 := cell_of h2
    have hlt := lt_heap h5
    have hkeep : ∀ w6, Below W'.heap.size W' w6 → w6.cell? ⟨w.heap.size + 1, 0, none⟩ = some (.string text) := fun w6 hb => cell_grow hb (cell_of h3)
    have hfr2 : ∀ w6, Below W'.heap.size W' w6 → w6.heap[w.heap.size + 2]? = some (.cells #[.int .i64 0] 3 (0, 0)) ∧ w6.heap[w.heap.size + 3]? = some (.cells #[.int .i64 0] 30 (0, 0)) := fun w6 hb => ⟨(hb.block _ (by omega)).trans h4, (hb.block _ (by omega)).trans h5⟩
    have hH : hitB f text (order f 0)[m] = (decide (attrErr f (order f 0)[m] idN = 0) && decide (attrVal f (order f 0)[m] idN = text) && decide (text.size ≠ 0)) := rfl
    have H1 := Lib.hid h1; have H2 := Lib.hid h2; have H3 := Lib.hid h3; have H4 := Lib.hid h4; have H5 := Lib.hid h5; have H6 := Lib.hid h6; have H7 := Lib.hid h7; have Hnx := Lib.hid hnx; have Hhit := Lib.hid hhit; have Hat := Lib.hid hat; have Hkeep := Lib.hid hkeep; have Hfr := Lib.hid hfr2; have HH := Lib.hid hH
    clear h1 h2 h3 h4 h5 h6 h7 hnx hhit hat hkeep hfr2 hH q0 q1 q2 q3 qf qi hr5
    generalize (order f 0)[m] = x at *
    unfold AttrPost at Hat
    obtain ⟨E, hE⟩ : ∃ E, attrErr f x idN = E := ⟨_, rfl⟩
    obtain ⟨V, hV⟩ : ∃ V, attrVal f x idN = V := ⟨_, rfl⟩
    rw [hE, hV] at Hat HH
    gi_wp2_with (gi_at_call 93; (refine (callsIn_wide.2 Hat.out).mono ?_); rintro e w6 ⟨rfl, hb6⟩; have k1 := Hkeep.out w6 hb6; obtain ⟨k2, k3⟩ := Hfr.out w6 hb6; have k4 := free_of k2 0; have k5 := free_of k3 0; have k6 := cell_of k2; have k7 := cell_of k3; have K2 := Lib.hid k2; have K3 := Lib.hid k3; have Hb6 := Lib.hid hb6; clear k2 k3 hb6)
    · have he : V.toList = text.toList := by assumption
      have hE0 : E = 0 := by assumption
      have ht : (!text.toList.isEmpty) = true := by assumption
      rw [FSame.str_inj] at he
      rw [empty_dec] at ht
      have hbi := Hhit.out (by rw [HH.out, decide_eq_true he, decide_eq_true hE0, ht]; rfl)
      refine ⟨X', Grew.refl _ _, ((Off.below Hb6.out (fun b h h' => by omega)).trans (Off.setCell _ _ _ ((H6.out _).2 (.inl rfl)))).trans (Off.setCell _ _ _ ((H6.out _).2 (.inr rfl))), rfl, x, (set_other (by omega)).trans (set_one K2.out), set_one ((set_other (by omega)).trans K3.out), H6.out, hbi⟩
    · have ht : (!text.toList.isEmpty) = false := by assumption
      rw [empty_dec] at ht
      obtain ⟨r1, r2⟩ := idI_next ⟨H1.out, H2.out, H3.out, H4.out, H5.out, H6.out, H7.out⟩ Hb6.out x Hnx.out (by rw [HH.out, ht, Bool.and_false])
      exact ⟨X', Grew.refl _ _, r1, r2⟩
    · have he : ¬ V.toList = text.toList := by assumption
      rw [FSame.str_inj] at he
      obtain ⟨r1, r2⟩ := idI_next ⟨H1.out, H2.out, H3.out, H4.out, H5.out, H6.out, H7.out⟩ Hb6.out x Hnx.out (by rw [HH.out, decide_eq_false he, Bool.and_false, Bool.false_and])
      exact ⟨X', Grew.refl _ _, r1, r2⟩
    · have he : ¬ E = 0 := by assumption
      obtain ⟨r1, r2⟩ := idI_next ⟨H1.out, H2.out, H3.out, H4.out, H5.out, H6.out, H7.out⟩ Hb6.out x Hnx.out (by rw [HH.out, decide_eq_false he, Bool.false_and, Bool.false_and])
      exact ⟨X', Grew.refl _ _, r1, r2⟩
  case done =>
    rintro D X' W hD hXD hgr hof ⟨h1, h2, h3, h4, h5, h6, h7⟩ hK
    rw [List.length_map, List.take_of_length_le (Nat.le_refl _)] at h7
    have hbi := byId_none h7
    have hc4 := cell_of h4
    have hc5 := cell_of h5
    have hf4 := free_of h4 0
    have hf5 := free_of h5 0
    have H4 := Lib.hid h4; have H5 := Lib.hid h5; have HK := Lib.hid hK; have Hof := Lib.hid hof; have Hbi := Lib.hid hbi
    clear h1 h2 h3 h4 h5 h6 h7 hK hof hgr q0 q1 q2 q3 qf qi hr5 hbi
    gi_wp2
    refine ⟨by simp, .inl ⟨_, _, rfl, run_takeDeferred ((set_other (by omega)).trans ((set_other (by omega)).trans HK.out)), ?_⟩⟩
    have g2 : (((W.setCell ⟨w.heap.size + 2, 0, none⟩ (.int .i64 0)).setCell ⟨w.heap.size + 3, 0, none⟩ (.int .i64 3)).putObj D (.deferred none)).heap[w.heap.size + 2]? = some (.cells #[.int .i64 0] 3 (0, 0)) := (put_other (by omega)).trans ((set_other (by omega)).trans (set_one H4.out))
    have g3 : (((W.setCell ⟨w.heap.size + 2, 0, none⟩ (.int .i64 0)).setCell ⟨w.heap.size + 3, 0, none⟩ (.int .i64 3)).putObj D (.deferred none)).heap[w.heap.size + 3]? = some (.cells #[.int .i64 3] 30 (0, 0)) := (put_other (by omega)).trans (set_one ((set_other (by omega)).trans H5.out))
    have c2 := cell_of g2
    have c3 := cell_of g3
    refine ⟨.tuple #[.int .i64 0, .int .i64 3], by simp [results, Tryz.results50, c2, c3, go_sem], by rw [Hbi.out]; rfl, ?_⟩
    have b1 := ((Hb5.out.trans (Hof.out.toBelow (B := w.heap.size) (by omega) (fun b h => by rcases h with h | h; omega; exact h.elim))).setCell (p := ⟨w.heap.size + 2, 0, none⟩) (by simp) (.int .i64 0)).setCell (p := ⟨w.heap.size + 3, 0, none⟩) (by simp) (.int .i64 3)
    exact b1.trans (Off.toBelow (Y := fun b => b = D) (Off.putObj _ _ _ rfl) b1.size (fun b h => by omega))
  case stop =>
    rintro D c m X' W hk hD hXD hgr hof ⟨rfl, x, h4, h5, h6, h7⟩ hK
    gi_wp2
    refine ⟨by simp, .inl ⟨_, _, rfl, run_takeDeferred hK, ?_⟩⟩
    have c2 := cell_of ((put_other (o := .deferred none) (show w.heap.size + 2 ≠ D by omega)).trans h4)
    have c3 := cell_of ((put_other (o := .deferred none) (show w.heap.size + 3 ≠ D by omega)).trans h5)
    refine ⟨.tuple #[.int .i64 x, .int .i64 0], by simp [results, Tryz.results50, c2, c3, go_sem], by rw [h7]; rfl, ?_⟩
    have b1 := Hb5.out.trans (hof.toBelow (B := w.heap.size) (by omega) (fun b h => by rcases h with h | h; omega; exact h.elim))
    exact b1.trans (Off.toBelow (Y := fun b => b = D) (Off.putObj _ _ _ rfl) b1.size (fun b h => by omega))
end Go.Proofs.YthdenkkllpkplaaGreat.Wk
end
section
/- treillagelaw10.FindIds. -/
namespace Go.Proofs.YthdenkkllpkplaaGreat.LIds
open Go Go.RowKit Go.Proofs.YthdenkkllpkplaaGreat.Seq Go.Proofs.YthdenkkllpkplaaGreat.WS Go.Proofs.YthdenkkllpkplaaGreat.FS Go.Proofs.YthdenkkllpkplaaGreat.Mem Go.Proofs.YthdenkkllpkplaaGreat.Rd Go.Proofs.YthdenkkllpkplaaGreat.Shapes Go.Proofs.YthdenkkllpkplaaGreat.Word Go.Proofs.YthdenkkllpkplaaGreat.FFam Go.Proofs.YthdenkkllpkplaaGreat.Grown Go.Proofs.YthdenkkllpkplaaGreat.Fn Go.Proofs.YthdenkkllpkplaaGreat.Pa Go.Proofs.YthdenkkllpkplaaGreat.Fi
set_option linter.unusedVariables false
set_option linter.unusedSimpArgs false
theorem row_at0 {B : Nat} {w : World} {A : Option Addr} {n c : Nat} {l : Sel} (h : RdSel B w (.slice A n c) l) (hi : 0 < l.length) :
    ∃ (b o : Nat) (At : Option Addr) (ct : Nat), A = some ⟨b, o, none⟩ ∧ b < B ∧ w.cell? ⟨b, o, none⟩ = some (.slice At l[0].length ct) ∧ RdL stepE 2 B w (.slice At l[0].length ct) l[0] ∧ l[0].length ≤ ct ∧ ct ≤ maxLen := row_at h hi
theorem step_at0 {B : Nat} {w : World} {A : Option Addr} {n c : Nat} {l : Sro} (h : RdL stepE 2 B w (.slice A n c) l) (hi : 0 < l.length) :
    ∃ (b o : Nat) (At : Option Addr) (ct : Nat), A = some ⟨b, o, none⟩ ∧ b < B ∧ w.cell? ⟨b, o, none⟩ = some (.slice At l[0].c.length ct) ∧ RdL testE 3 B w (.slice At l[0].c.length ct) l[0].c ∧ l[0].c.length ≤ ct ∧ ct ≤ maxLen := by
  obtain ⟨b, o, At, ct, h1, h2, h3, _, h5, h6⟩ := step_at h hi
  exact ⟨b, o, At, ct, h1, h2, by simpa using h3, h5, h6⟩
set_option maxRecDepth 100000 in
set_option maxHeartbeats 8000000 in
theorem law_calls (w : World) (l : List Opn) (v : Value) (h : RdO w.heap.size w v l) (name : ByteArray) (hn : name.size ≤ 1048575) :
    Calls Tryz.prog 17 #[v, .string name] w fun e w' => e = .returned (.bool true) ∧ Below w.heap.size w w' := by
  obtain ⟨s, hs⟩ : ∃ s, s = (⟨#[35]⟩ : ByteArray) ++ name := ⟨_, rfl⟩
  have hsz : s.size = name.size + 1 := by rw [hs, ByteArray.size_append]; show 1 + name.size = _; omega
  have h35 : nextB s 0 = 35 := by
    rw [next_yes (by omega)]
    subst hs
    rw [ByteArray.getElem_append_left (by decide)]
    rfl
  have hpa := parse_calls s (by omega) w
  unfold ParseQ at hpa
  have hO := fun w' (hb : Below w.heap.size w w') => (h.below opE_keeps (w' := w') hb (Nat.le_refl _)).mono opE_keeps hb.size
  have hbn := fun w' (hb : Below w.heap.size w w') => Fi.bounded_calls w' v l (hO w' hb)
  have hgr := fun w' (hb : Below w.heap.size w w') => Fi.grown_calls w' v l (hO w' hb)
  unfold Fi.GrownPost at hgr
  obtain ⟨A0, c0, rfl, hl0, hc0, _⟩ := h.form
  simp only [maxLen] at hc0
  have Hs := Lib.hid hs; have Hsz := Lib.hid hsz; have H35 := Lib.hid h35; have Hgr := Lib.hid hgr
  clear hs hsz h35 hgr hO h
  cases hB : bndO l with
  | false =>
    simp only [hB] at hbn
    cases hp : parseP s with
    | error b =>
      rw [hp] at hpa
      have Hpa := Lib.hid hpa
      clear hpa hp
      go_enter Tryz.func17, Tryz.ntmps17
      go_upto_region 2 with (go_at_call 47; rw [← Hs.out]; (with_reducible refine (Hpa.out).mono ?_); rintro e w8 ⟨hb8, rfl⟩; have Hb8 := Lib.hid hb8; clear hb8)
      have hbn8 := hbn w8 Hb8.out
      have Hbn := Lib.hid hbn8
      clear hbn hbn8
      go_wp2_with (first | (go_at_call 32; (with_reducible refine (Hbn.out).mono ?_); rintro e w5 ⟨rfl, rfl⟩) | (go_at_call 34; (with_reducible refine (Fi.shown_calls _).mono ?_); rintro e w6 ⟨rfl, hb6⟩; have Hb6 := Lib.hid hb6; clear hb6))
      go_ret
      exact ⟨rfl, bthen Hb8.out Hb6.out⟩
    | ok l2 =>
      rw [hp] at hpa
      have Hpa := Lib.hid hpa; have Hp := Lib.hid hp
      clear hpa hp
      go_enter Tryz.func17, Tryz.ntmps17
      go_upto_region 2 with (go_at_call 47; rw [← Hs.out]; (with_reducible refine (Hpa.out).mono ?_); rintro e w8 ⟨hb8, v8, rfl, hr8⟩; have Hb8 := Lib.hid hb8; have Hr8 := Lib.hid (sel_of hr8); clear hb8 hr8)
      have hbn8 := hbn w8 Hb8.out
      have Hbn := Lib.hid hbn8
      clear hbn hbn8
      obtain ⟨A8, c8, rfl, hl8, hc8, hr8⟩ := Hr8.out.form
      simp only [maxLen] at hc8
      go_wp2_with (first | (go_at_call 32; (with_reducible refine (Hbn.out).mono ?_); rintro e w5 ⟨rfl, rfl⟩) | (go_at_call 34; (with_reducible refine (Fi.shown_calls _).mono ?_); rintro e w6 ⟨rfl, hb6⟩; have Hb6 := Lib.hid hb6; clear hb6))
      go_ret
      exact ⟨rfl, bthen Hb8.out Hb6.out⟩
  | true =>
    simp only [hB] at hbn
    by_cases hn1 : 100 < name.size
    · have hn2 : 100 < (name.size : Int) := by omega
      cases hp : parseP s with
      | error b =>
        rw [hp] at hpa
        have Hpa := Lib.hid hpa
        clear hpa hp
        go_enter Tryz.func17, Tryz.ntmps17
        go_upto_region 2 with (go_at_call 47; rw [← Hs.out]; (with_reducible refine (Hpa.out).mono ?_); rintro e w8 ⟨hb8, rfl⟩; have Hb8 := Lib.hid hb8; clear hb8)
        have hbn8 := hbn w8 Hb8.out
        have Hbn := Lib.hid hbn8
        clear hbn hbn8
        go_wp2_with (first | (go_at_call 32; (with_reducible refine (Hbn.out).mono ?_); rintro e w5 ⟨rfl, rfl⟩) | (go_at_call 34; (with_reducible refine (Fi.shown_calls _).mono ?_); rintro e w6 ⟨rfl, hb6⟩; have Hb6 := Lib.hid hb6; clear hb6))
        go_ret
        exact ⟨rfl, bthen Hb8.out Hb6.out⟩
      | ok l2 =>
        rw [hp] at hpa
        have Hpa := Lib.hid hpa; have Hp := Lib.hid hp
        clear hpa hp
        go_enter Tryz.func17, Tryz.ntmps17
        go_upto_region 2 with (go_at_call 47; rw [← Hs.out]; (with_reducible refine (Hpa.out).mono ?_); rintro e w8 ⟨hb8, v8, rfl, hr8⟩; have Hb8 := Lib.hid hb8; have Hr8 := Lib.hid (sel_of hr8); clear hb8 hr8)
        have hbn8 := hbn w8 Hb8.out
        have Hbn := Lib.hid hbn8
        clear hbn hbn8
        obtain ⟨A8, c8, rfl, hl8, hc8, hr8⟩ := Hr8.out.form
        simp only [maxLen] at hc8
        go_wp2_with (first | (go_at_call 32; (with_reducible refine (Hbn.out).mono ?_); rintro e w5 ⟨rfl, rfl⟩) | (go_at_call 34; (with_reducible refine (Fi.shown_calls _).mono ?_); rintro e w6 ⟨rfl, hb6⟩; have Hb6 := Lib.hid hb6; clear hb6))
        go_ret
        exact ⟨rfl, bthen Hb8.out Hb6.out⟩
    · have hn2 : ¬ (100 < (name.size : Int)) := by omega
      have HB := Lib.hid hB
      clear hB
      cases hp : parseP s with
      | error b =>
        rw [hp] at hpa
        have Hpa := Lib.hid hpa
        clear hpa hp
        go_enter Tryz.func17, Tryz.ntmps17
        go_upto_region 2 with (go_at_call 47; rw [← Hs.out]; (with_reducible refine (Hpa.out).mono ?_); rintro e w8 ⟨hb8, rfl⟩; have Hb8 := Lib.hid hb8; clear hb8)
        have hbn8 := hbn w8 Hb8.out
        have Hbn := Lib.hid hbn8
        clear hbn hbn8
        go_wp2_with (first | (go_at_call 32; (with_reducible refine (Hbn.out).mono ?_); rintro e w5 ⟨rfl, rfl⟩) | (go_at_call 34; (with_reducible refine (Fi.shown_calls _).mono ?_); rintro e w6 ⟨rfl, hb6⟩; have Hb6 := Lib.hid hb6; clear hb6))
        go_ret
        exact ⟨rfl, bthen Hb8.out Hb6.out⟩
      | ok l2 =>
        rw [hp] at hpa
        have Hpa := Lib.hid hpa; have Hp := Lib.hid hp
        clear hpa hp
        go_enter Tryz.func17, Tryz.ntmps17
        go_upto_region 2 with (go_at_call 47; rw [← Hs.out]; (with_reducible refine (Hpa.out).mono ?_); rintro e w8 ⟨hb8, v8, rfl, hr8⟩; have Hb8 := Lib.hid hb8; have Hr8 := Lib.hid (sel_of hr8); clear hb8 hr8)
        have hbn8 := hbn w8 Hb8.out
        have Hbn := Lib.hid hbn8
        clear hbn hbn8
        obtain ⟨A8, c8, rfl, hl8, hc8, hr8⟩ := Hr8.out.form
        simp only [maxLen] at hc8
        by_cases h1 : l2.length = 1
        · obtain ⟨r, rfl⟩ : ∃ r, l2 = [r] := List.length_eq_one_iff.1 h1
          obtain ⟨br, or_, Ar, cr, rfl, hbr, r0, hrow, hlr, hcr⟩ := row_at0 hr8 (by simp)
          simp only [List.getElem_cons_zero] at r0 hrow hlr
          simp only [List.length_cons, List.length_nil, Nat.zero_add] at *
          simp only [maxLen] at hcr
          by_cases h2 : r.length = 1
          · obtain ⟨x, rfl⟩ : ∃ x, r = [x] := List.length_eq_one_iff.1 h2
            obtain ⟨bs, os, At, ct, rfl, hbs, s0, htst, hlt, hct⟩ := step_at0 hrow (by simp)
            simp only [List.getElem_cons_zero] at s0 htst hlt
            simp only [List.length_cons, List.length_nil, Nat.zero_add] at *
            simp only [maxLen] at hct
            obtain ⟨xc, xch⟩ := x
            simp only at *
            by_cases h3 : xc.length = 1
            · obtain ⟨t, rfl⟩ : ∃ t, xc = [t] := List.length_eq_one_iff.1 h3
              obtain ⟨bt, ot, rfl, hbt, _, t1, _⟩ := test_at htst (i := 0) (by simp)
              simp only [List.getElem_cons_zero, List.length_cons, List.length_nil, Nat.zero_add, Nat.zero_mul, Nat.add_zero] at *
              obtain ⟨hk2, hk0⟩ := id_parse (by have := Hsz.out; omega) H35.out Hp.out
              have hsms : SmS [[{ c := [t], child := xch }]] := (parse_sm Hp.out).2
              have hm := grow_may l
              have hsm := Fi.grow_sm HB.out
              obtain ⟨f, hf⟩ : ∃ f, f = growF l := ⟨_, rfl⟩
              rw [← hf] at hm hsm
              have hgr' := fun w' (hb : Below w8.heap.size w8 w') => Hgr.out w' (bthen Hb8.out hb)
              simp only [← hf] at hgr'
              have hcl := fun w' (hb : Below w8.heap.size w8 w') => (⟨cell_grow hb r0, cell_grow hb s0, cell_grow hb t1⟩ : w'.cell? ⟨br, or_, none⟩ = _ ∧ w'.cell? ⟨bs, os, none⟩ = _ ∧ w'.cell? ⟨bt, ot + 1, none⟩ = _)
              have hrl := fun w' (hb : Below w8.heap.size w8 w') => (Hr8.out.below rowE_keeps (w' := w') hb (Nat.le_refl _)).mono rowE_keeps hb.size
              have hfind := id_find hm (ch := xch) hk2 hk0
              have Hg := Lib.hid hgr'; have Hm := Lib.hid hm; have Hsm := Lib.hid hsm; have Hcl := Lib.hid hcl; have Hrl := Lib.hid hrl; have Hfind := Lib.hid hfind; have Hsms := Lib.hid hsms
              clear hgr' hm hsm hcl hrl hfind hsms hk2 hk0 hf hr8 hrow htst h1 h2 h3
              go_upto_region 5 with (first | (go_at_call 32; (with_reducible refine (Hbn.out).mono ?_); rintro e w5 ⟨rfl, rfl⟩) | (go_at_call 34; (with_reducible refine (Fi.shown_calls _).mono ?_); rintro e w6 ⟨rfl, hb6⟩; have Hb6 := Lib.hid hb6; clear hb6) | (go_at_call 35; (with_reducible refine (Hg.out _ Hb6.out).mono ?_); rintro e w7 ⟨v7, rfl, hr7, hb7⟩; have Hr7 := Lib.hid hr7; have Hb7 := Lib.hid (bthen Hb6.out hb7); clear hr7 hb7))
              have hrd := fun w' (hb : Below w7.heap.size w7 w') => (Hr7.out.below nodeE_keeps (w' := w') hb (Nat.le_refl _)).mono nodeE_keeps hb.size
              obtain ⟨A7, c7, rfl, hl7, hc7, _⟩ := Hr7.out.form
              obtain ⟨k0, k1, k2⟩ := Hcl.out w7 Hb7.out
              have hid := Wk.ById_calls w7 _ f (hrd w7 (Below.refl _ _)) Hm.out t.name
              unfold Wk.ByIdPost at hid
              have hfi := fun w' (hb : Below w7.heap.size w7 w') => First_calls w' _ f (hrd w' hb) Hm.out Hsm.out 0 (by decide) _ _ (Hrl.out w' (bthen Hb7.out hb)) Hsms.out
              simp only [Hfind.out] at hfi
              cases ho : byId f t.name with
              | none =>
                rw [ho] at hid
                simp only [ho] at hfi
                unfold Wk.byIdV at hid
                unfold firstS at hfi
                have Hid := Lib.hid hid; have Hfi := Lib.hid hfi; have Hrd := Lib.hid hrd
                clear hid hfi hrd ho
                go_wp2_with (first | (go_at_call 50; (with_reducible refine (Hid.out).mono ?_); rintro e w9 ⟨rfl, hb9⟩; have Hb9 := Lib.hid hb9; clear hb9) | (go_at_call 38; (with_reducible refine (Hfi.out _ Hb9.out).mono ?_); rintro e w10 ⟨rfl, hb10⟩; have Hb10 := Lib.hid (bthen Hb9.out hb10); clear hb10))
                go_ret
                exact ⟨rfl, bthen Hb8.out (bthen Hb7.out Hb10.out)⟩
              | some k =>
                rw [ho] at hid
                simp only [ho] at hfi
                unfold Wk.byIdV at hid
                unfold firstS at hfi
                have Hid := Lib.hid hid; have Hfi := Lib.hid hfi; have Hrd := Lib.hid hrd
                clear hid hfi hrd ho
                go_wp2_with (first | (go_at_call 50; (with_reducible refine (Hid.out).mono ?_); rintro e w9 ⟨rfl, hb9⟩; have Hb9 := Lib.hid hb9; clear hb9) | (go_at_call 38; (with_reducible refine (Hfi.out _ Hb9.out).mono ?_); rintro e w10 ⟨rfl, hb10⟩; have Hb10 := Lib.hid (bthen Hb9.out hb10); clear hb10))
                go_ret
                exact ⟨rfl, bthen Hb8.out (bthen Hb7.out Hb10.out)⟩
            · have q3 : ((xc.length : Int) == 1) = false := by rw [beq_eq_false_iff_ne]; omega
              go_wp2_with (first | (go_at_call 32; (with_reducible refine (Hbn.out).mono ?_); rintro e w5 ⟨rfl, rfl⟩) | (go_at_call 34; (with_reducible refine (Fi.shown_calls _).mono ?_); rintro e w6 ⟨rfl, hb6⟩; have Hb6 := Lib.hid hb6; clear hb6))
              go_ret
              exact ⟨rfl, bthen Hb8.out Hb6.out⟩
          · have q3 : ((r.length : Int) == 1) = false := by rw [beq_eq_false_iff_ne]; omega
            go_wp2_with (first | (go_at_call 32; (with_reducible refine (Hbn.out).mono ?_); rintro e w5 ⟨rfl, rfl⟩) | (go_at_call 34; (with_reducible refine (Fi.shown_calls _).mono ?_); rintro e w6 ⟨rfl, hb6⟩; have Hb6 := Lib.hid hb6; clear hb6))
            go_ret
            exact ⟨rfl, bthen Hb8.out Hb6.out⟩
        · have q3 : ((l2.length : Int) == 1) = false := by rw [beq_eq_false_iff_ne]; omega
          go_wp2_with (first | (go_at_call 32; (with_reducible refine (Hbn.out).mono ?_); rintro e w5 ⟨rfl, rfl⟩) | (go_at_call 34; (with_reducible refine (Fi.shown_calls _).mono ?_); rintro e w6 ⟨rfl, hb6⟩; have Hb6 := Lib.hid hb6; clear hb6))
          go_ret
          exact ⟨rfl, bthen Hb8.out Hb6.out⟩
end Go.Proofs.YthdenkkllpkplaaGreat.LIds
end
section
/- Attributes, or ints, that are appended onto a row of the call's own: any slice of them, nil or empty too. -/
namespace Go.Proofs.YthdenkkllpkplaaGreat.PlA
open Go Go.RowKit Go.Proofs.YthdenkkllpkplaaGreat.Seq Go.Proofs.YthdenkkllpkplaaGreat.WS Go.Proofs.YthdenkkllpkplaaGreat.FS Go.Proofs.YthdenkkllpkplaaGreat.Mem Go.Proofs.YthdenkkllpkplaaGreat.Rd Go.Proofs.YthdenkkllpkplaaGreat.Word Go.Proofs.YthdenkkllpkplaaGreat.Shapes Go.Proofs.YthdenkkllpkplaaGreat.FFam
set_option linter.unusedVariables false
set_option linter.unusedSimpArgs false
theorem run_append_none {P : Program} {w : World} (base : Nat) (t ty e : TypeId) (i : TypeInfo) (size c : Nat) (ht : P.underlying t = some (.slice e)) (hi : P.info? e = some i)
    (v : Value) (n : Nat) (xs : List Value) (hown : w.ownsRow base e size v n xs) : (Builtin.append_ #[t, t] ty #[v, .slice none 0 c]).run P w = .ok v w := by
  rcases hown.2 with ⟨rfl, rfl⟩ | ⟨g, cap, cur, rfl, _, _, hnc, _⟩
  · simp [Builtin.append_, run_underlying ht, sizeOf, typeInfo, hi, Builtin.lenOf, Builtin.firstCells]
  · simp [Builtin.append_, run_underlying ht, sizeOf, typeInfo, hi, Builtin.lenOf, Builtin.firstCells, hnc, storeCells]
theorem rd_none {α : Type} {E : Elem α} {sz B n c : Nat} {w : World} {l : List α} (h : RdL E sz B w (.slice none n c) l) : l = [] := by
  obtain ⟨A, c', e, _, _, h0⟩ := h
  injection e with e
  subst e
  cases l with
  | nil => rfl
  | cons y r => obtain ⟨b, o, e, _⟩ := h0 (by simp); cases e
/-- The same of elements of whatever size, whose cells are known. -/
theorem pl_any {P : Program} {ops : Array Oper} {rest : List Oper} {o : Oper} {a : Act} {Q : Exit → Act → World → Prop} (W : World) (hgd : o.guard = none) (s x : Operand) (t e : TypeId) (size bytes : Nat) (z : Value) (i0 : TypeInfo)
    (ho : o.op = .call { callee := .builtin .append, args := #[s, x], argTypes := #[t, t] }) (ht : P.underlying t = some (.slice e)) (hi : P.info? e = some i0) (hz0 : i0.zero = some z) (hz1 : i0.size = size) (hz2 : i0.bytes = bytes) (hzs : z.cells.size = size) (hsz : 0 < size)
    (B : Nat) (v : Value) (n : Nat) (xs : List Value) (A : Option Addr) (m c : Nat) (news : List Value) (hs : a.eval s = v) (hown : W.ownsRow B e size v n xs) (hx : a.eval x = .slice A m c) (hA : A = none → m = 0) (hl : news.length = m * size)
    (hnews : ∀ ad, A = some ad → ∀ j u, news[j]? = some u → W.cell? (ad.add j) = some u) (h1 : ∀ u ∈ news, u.oneCell' = true) (h63 : n + m ≤ maxLen) (hby : (n + m) * bytes ≤ 140737488355328) (hB : B ≤ W.heap.size)
    (h : ∀ v' w1, w1.ownsRow B e size v' (n + m) (xs ++ news) → W.grownBy w1 v.ownBlock → (v'.ownBlock = v.ownBlock ∨ v'.ownBlock = some W.heap.size) → wpList P ops Q rest (a.put o.dst v') w1) : wpList P ops Q (o :: rest) a W := by
  cases A with
  | some ad => exact wpList_append_own_at W hgd s x t ho B e i0 z size bytes ht hi hz0 hz1 hz2 hzs hsz v n xs hs hown ad m c news hx hl (hnews ad rfl) h1 h63 hby hB (fun v' w' h2 h3 _ h5 => h v' w' h2 h3 h5)
  | none =>
    have hm := hA rfl
    subst hm
    have hnl : news = [] := List.eq_nil_of_length_eq_zero (by omega)
    subst hnl
    refine wpList_plain hgd fun K hK => ?_
    have hrun := run_append_none (P := P) (w := W) B t o.type e i0 size c ht hi v n xs hown
    unfold Oper.wp
    simp [execOp, ho, resolve, invoke, builtin, hs, hx, hrun, Result.andThen]
    refine hK _ _ (h v W ?_ ?_ (.inl rfl))
    · show W.ownsRow B e size v (n + 0) (xs ++ [])
      rw [List.append_nil]
      exact hown
    · exact ⟨rfl, rfl, rfl, Nat.le_refl _, fun _ _ _ => rfl⟩
theorem int_cells {B : Nat} {w : World} {ad : Addr} {c : Nat} {l : List Int} (h : RdL (intE .i64) 1 B w (.slice (some ad) l.length c) l) : ∀ j u, (l.map (Value.int .i64))[j]? = some u → w.cell? (ad.add j) = some u := by
  intro j u hj
  have hlt : j < l.length := by simpa using (List.getElem?_eq_some_iff.1 hj).1
  obtain ⟨b, o, e, _, g0, _⟩ := intE_at h hlt
  injection e with e
  subst e
  rw [List.getElem?_map, List.getElem?_eq_getElem hlt] at hj
  simp only [Option.map_some, Option.some.injEq] at hj
  rw [Addr.add_lit, ← hj]
  exact g0
theorem ints_one (l : List Int) : ∀ u ∈ l.map (Value.int .i64), u.oneCell' = true := by
  intro u hu
  obtain ⟨z, _, rfl⟩ := List.mem_map.1 hu
  rfl
theorem attrs_one (l : List Av) : ∀ u ∈ Its.atCells l, u.oneCell' = true := by
  intro u hu
  unfold Its.atCells at hu
  obtain ⟨a, _, ha⟩ := List.mem_flatMap.1 hu
  simp only [List.mem_cons, List.not_mem_nil, or_false] at ha
  rcases ha with rfl | rfl <;> rfl
end Go.Proofs.YthdenkkllpkplaaGreat.PlA
end
