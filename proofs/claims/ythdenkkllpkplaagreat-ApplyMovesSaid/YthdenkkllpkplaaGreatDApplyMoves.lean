/- The law ApplyMoves answers true at every input, and each argument reads afterwards as it read before; no condition. -/
import Derived.Test.YthdenkkllpkplaaGreatRows
import Derived.WalkKit
import Derived.ProofKit
import Derived.OpenShut
import Derived.ShutString
import Derived.ChangeOld
import Derived.Below
import Derived.SizedLaws
import Derived.Test.YthdenkkllpkplaaGreatC15
import Derived.Test.YthdenkkllpkplaaGreatC16
section
/- ApplyMoves. -/
namespace Go.Proofs.YthdenkkllpkplaaGreat.LMoves
open Go Go.RowKit Go.Proofs.YthdenkkllpkplaaGreat.Seq Go.Proofs.YthdenkkllpkplaaGreat.WS Go.Proofs.YthdenkkllpkplaaGreat.FS Go.Proofs.YthdenkkllpkplaaGreat.Mem Go.Proofs.YthdenkkllpkplaaGreat.Rd Go.Proofs.YthdenkkllpkplaaGreat.Shapes Go.Proofs.YthdenkkllpkplaaGreat.Word Go.Proofs.YthdenkkllpkplaaGreat.FFam Go.Proofs.YthdenkkllpkplaaGreat.Grown Go.Proofs.YthdenkkllpkplaaGreat.Ap
set_option linter.unusedVariables false
set_option linter.unusedSimpArgs false

theorem u8_nat {a : Int} (h : (Lit.int .u8 a).wf = true) : ∃ n : Nat, a = n ∧ n ≤ 255 := by
  simp only [Lit.wf, Bool.and_eq_true, decide_eq_true_eq] at h
  have h0 : (0 : Int) ≤ a := h.1
  have h1 : a ≤ 255 := h.2
  exact ⟨a.toNat, by omega, by omega⟩
theorem rem_nat (a b : Nat) (hb : 0 < b) : (a : Int) % (b : Int) = ((a % b : Nat) : Int) ∧ Int.tmod (a : Int) (b : Int) = ((a % b : Nat) : Int) := by
  have h1 : (a : Int) % (b : Int) = ((a % b : Nat) : Int) := by omega
  exact ⟨h1, by rw [Int.tmod_eq_emod_of_nonneg (by omega)]; exact h1⟩
set_option maxRecDepth 100000 in
set_option maxHeartbeats 8000000 in
theorem law_calls (w : World) (l : List Opn) (v : Value) (h : RdO w.heap.size w v l) (a : Int) (ha : (Lit.int .u8 a).wf = true) (t : Int) (ht : (Lit.int .u8 t).wf = true) (s : Int) (hs : (Lit.int .u8 s).wf = true) :
    Calls Tryz.prog 7 #[v, .int .u8 a, .int .u8 t, .int .u8 s] w fun e w' => e = .returned (.bool true) ∧ Below w.heap.size w w' := by
  have hrd := fun w' (hb : Below w.heap.size w w') => (h.below opE_keeps (w' := w') hb (Nat.le_refl _)).mono opE_keeps hb.size
  have hbn := bounded_calls w v l h
  obtain ⟨A0, c0, rfl, hl0, hc0, _⟩ := h.form
  simp only [maxLen] at hc0
  have Hrd := Lib.hid hrd
  clear hrd h
  cases hB : bndO l with
  | false =>
    rw [hB] at hbn
    have Hbn := Lib.hid hbn
    clear hbn hB ha ht hs
    go_enter Tryz.func7, Tryz.ntmps7
    go_wp2_with (first | (go_at_call 18; (with_reducible refine (Hbn.out).mono ?_); rintro e w5 ⟨rfl, rfl⟩; clear Hbn) | (go_at_call 19; (with_reducible refine (shown_calls _).mono ?_); rintro e w6 ⟨rfl, hb6⟩; have Hb6 := Lib.hid hb6; clear hb6))
    go_ret
    exact ⟨rfl, Hb6.out⟩
  | true =>
    rw [hB] at hbn
    have Hbn := Lib.hid hbn
    clear hbn hB
    obtain ⟨an, rfl, han⟩ := u8_nat ha
    obtain ⟨tn, rfl, htn⟩ := u8_nat ht
    obtain ⟨sn, rfl, hsn⟩ := u8_nat hs
    clear ha ht hs
    go_enter Tryz.func7, Tryz.ntmps7
    go_upto_region 4 with (first | (go_at_call 18; (with_reducible refine (Hbn.out).mono ?_); rintro e w5 ⟨rfl, rfl⟩; clear Hbn) | (go_at_call 19; (with_reducible refine (shown_calls _).mono ?_); rintro e w6 ⟨rfl, hb6⟩; have Hb6 := Lib.hid hb6; clear hb6) | (go_at_call 20; (with_reducible refine (FNew.New_calls _).mono ?_); rintro e w7 ⟨v7, rfl, hr7, hb7⟩; have Hr7 := Lib.hid hr7; have Hb7 := Lib.hid (bthen Hb6.out hb7); clear hr7 hb7))
    go_wp2_with fail
    go_loopw [9, 10] (fun v i wr => ∃ k : Nat, k ≤ l.length ∧ i = .int .i64 k ∧ RdF wr.heap.size wr v (growF (l.take k)) ∧ Below w.heap.size w wr) (fun _ i _ => l.length - (intOf i).toNat)
    case atStart => exact ⟨0, Nat.zero_le _, rfl, Hr7.out, Hb7.out⟩
    case round =>
      obtain ⟨k, hk, rfl, hr, hb⟩ := hrel
      have hmg := grow_may (l.take k)
      by_cases hlt : k < l.length
      · obtain ⟨b, o1, rfl, hbl, g0, g1, g2, g3, g4, g5, m1, m2, m3, m4⟩ := op_at (Hrd.out _ hb) hlt
        have hone := Doings.one_calls wr _ _ l[k] hr hmg m1 m2 m3 m4
        have hs : growF (l.take (k + 1)) = oneF (growF (l.take k)) l[k] := by rw [List.take_succ_eq_append_getElem hlt, grow_snoc]
        obtain ⟨A3, c3, rfl, _, _, _⟩ := hr.form
        have Hone := Lib.hid hone; have Hs := Lib.hid hs; have Hb := Lib.hid hb
        clear hone hs hb hr hmg m1 m2 m3 m4
        generalize l[k] = x at *
        go_wp2_with (go_at_call 21; ((with_reducible refine (Hone.out).mono ?_); rintro e w8 ⟨v8, rfl, hr8, hb8⟩; have Hr8 := Lib.hid hr8; have Hb8 := Lib.hid hb8; clear hr8 hb8))
        go_roundw
        case rel => exact ⟨k + 1, by omega, by go_num, by rw [Hs.out]; exact Hr8.out, bthen Hb.out Hb8.out⟩
        case measure => simp [intOf]; omega
      · have hl : growF (l.take k) = growF l := by rw [List.take_of_length_le (by omega)]
        rw [hl] at hr hmg
        obtain ⟨f, hf⟩ : ∃ f, f = growF l := ⟨_, rfl⟩
        rw [← hf] at hr hmg
        obtain rfl : k = l.length := by omega
        have hlen := may_len hmg
        obtain ⟨A7, c7, rfl, hl7, hc7, hr7⟩ := hr.form
        simp only [maxLen] at hc7
        obtain ⟨b7, o7, _, rfl, hb7lt, _⟩ := hr7.at_ (i := 0) (by omega)
        have Hm := Lib.hid hmg; have HR := Lib.hid hr7; have Hb := Lib.hid hb
        clear hl hf hmg hr hr7 hb hlt hk hb7lt Hrd Hr7 Hb7
        obtain ⟨n, hnn⟩ : ∃ n, n = an % f.length := ⟨_, rfl⟩
        have hnl : n < f.length := by rw [hnn]; exact Nat.mod_lt _ (by omega)
        obtain ⟨hm1, hm2⟩ := rem_nat an f.length (by omega)
        rw [← hnn] at hm1 hm2
        have hmy := FMay.May_calls wr _ f HR.out (fun x hx => by have := Work.may_kids Hm.out x hx; omega)
        rw [Hm.out] at hmy
        have Hmy := Lib.hid hmy
        clear hmy hnn
        go_upto_region 11 with (go_at_call 27; (with_reducible refine (Hmy.out).mono ?_); rintro e w8 ⟨rfl, hb8⟩; have Hb8 := Lib.hid hb8; clear hb8 Hmy)
        have hrf := fun w' (hb : Below w8.heap.size w8 w') => (HR.out.below nodeE_keeps (w' := w') (bthen Hb8.out hb) (Nat.le_refl _)).mono nodeE_keeps (bthen Hb8.out hb).size
        have Hrf := Lib.hid hrf
        clear hrf hm1 hm2
        obtain ⟨bf, of, _, _, _, _, hAf, _, _, _, _, _, g4, _⟩ := node_at (Hrf.out w8 (Below.refl _ _)) hnl
        injection hAf with hAf
        injection hAf with k1 k2 _
        subst k1 k2
        rw [← atN hnl] at g4
        have hpar := (may_is Hm.out).par n hnl
        by_cases hp0 : (at_ f (n : Int)).parent < 0
        · generalize (at_ f (n : Int)).parent = pr at *
          clear hpar
          go_wp2_with fail
          go_ret
          exact ⟨rfl, bthen Hb.out Hb8.out⟩
        · obtain ⟨p, hp⟩ : ∃ p : Nat, (at_ f (n : Int)).parent = p := ⟨(at_ f (n : Int)).parent.toNat, by omega⟩
          have hpl : p < f.length := by omega
          have hcnt := hpar.2.2 (by omega)
          rw [hp] at g4 hcnt
          obtain ⟨bp, op, _, _, Ak, ck, hAp, _, _, _, _, _, _, g5, _, rk, _, _, hlk, hck, _, _, _, _⟩ := node_at (Hrf.out w8 (Below.refl _ _)) hpl
          injection hAp with hAp
          injection hAp with k1 k2 _
          subst k1 k2
          rw [← atN hpl] at g5 rk hlk
          have hmem : (n : Int) ∈ (at_ f (p : Int)).kids := List.count_pos_iff.1 (by omega)
          have hMo := fun k (hk : k < (at_ f (p : Int)).kids.length) (hx : (at_ f (p : Int)).kids[k] = (n : Int)) (o b : Opn) => move_off Hm.out hnl hpl hp hk hx o b
          have hMt := fun k (hk : k < (at_ f (p : Int)).kids.length) (hx : (at_ f (p : Int)).kids[k] = (n : Int)) (o b : Opn) => move_there Hm.out hnl hpl hp hk hx o b
          have hpI : (p : Int) < (f.length : Int) := by omega
          have hp00 : ¬ (p : Int) < 0 := by omega
          generalize (at_ f (p : Int)).kids = L at *
          simp only [maxLen] at hck
          have HMo := Lib.hid hMo; have HMt := Lib.hid hMt; have Rk := Lib.hid rk; have Hmem := Lib.hid hmem; have Hp := Lib.hid hp
          clear hMo hMt rk hmem hpar hcnt hp0 hp
          go_wp2_with fail
          go_loop [13] (fun i => ∃ k : Nat, k ≤ L.length ∧ i = .int .i64 k ∧ Hid (∀ j (hj : j < L.length), j < k → L[j] ≠ (n : Int))) (fun i => L.length - (intOf i).toNat)
          case atStart => exact ⟨0, Nat.zero_le _, rfl, Lib.hid (fun j _ h => absurd h (Nat.not_lt_zero _))⟩
          case round =>
            obtain ⟨k, hk, rfl, hno⟩ := hrel
            have hlt : k < L.length := by
              rcases Nat.lt_or_ge k L.length with h1 | h1
              · exact h1
              · obtain ⟨j, hj, hjx⟩ := List.mem_iff_getElem.1 Hmem.out
                exact absurd hjx (hno.out j hj (by omega))
            obtain ⟨bk, ok, rfl, hbk, q0, _⟩ := intE_at Rk.out hlt
            by_cases hx : L[k] = (n : Int)
            · have hMo := fun o b => HMo.out k hlt hx o b
              have hMt := fun o b => HMt.out k hlt hx o b
              rw [hx] at q0
              have hkI : (k : Int) < (L.length : Int) := by omega
              obtain ⟨bk0, hbk0⟩ : ∃ b : Opn, b = { kind := 4, id := n, «to» := p, at_ := k } := ⟨_, rfl⟩
              obtain ⟨rm, hrm⟩ : ∃ b : Opn, b = { kind := 5, id := n } := ⟨_, rfl⟩
              obtain ⟨tt, htt⟩ : ∃ m, m = tn % f.length := ⟨_, rfl⟩
              obtain ⟨ss, hss⟩ : ∃ m, m = sn % 8 := ⟨_, rfl⟩
              obtain ⟨u1, u2⟩ := rem_nat tn f.length (by omega)
              obtain ⟨u3, u4⟩ := rem_nat sn 8 (by omega)
              rw [← htt] at u1 u2
              rw [← hss] at u3 u4
              have u3' : (sn : Int) % 8 = (ss : Int) := u3
              have u4' : Int.tmod (sn : Int) 8 = (ss : Int) := u4
              obtain ⟨mv, hmv⟩ : ∃ b : Opn, b = { kind := 4, id := n, «to» := tt, at_ := ss } := ⟨_, rfl⟩
              have hss8 : ss < 8 := by rw [hss]; exact Nat.mod_lt _ (by omega)
              have htt6 : tt < f.length := by rw [htt]; exact Nat.mod_lt _ (by omega)
              obtain ⟨f1, f2, f3, f4, f5⟩ := hMo rm bk0 hrm hbk0
              have hwf : ∀ m : Nat, m ≤ 9223372036854775807 → (Lit.int .i64 (m : Int)).wf = true := fun m hm => FTops.wf_i64 (by omega) (by omega)
              have hone := fun (o : Opn) (hn : o.name.size ≤ maxLen) (ht : o.text.size ≤ maxLen) (h1 : (Lit.int .i64 o.id).wf = true) (h2 : (Lit.int .i64 o.to).wf = true) w' (hb : Below w8.heap.size w8 w') => Doings.one_calls w' _ f o (Hrf.out w' hb) Hm.out hn ht h1 h2
              have hone0 : ∀ w', Below w8.heap.size w8 w' → Calls Tryz.prog 21 #[.slice (some ⟨b7, o7, none⟩) f.length c7, .agg #[.int .i64 4, .int .i64 (n : Int), .int .i64 (tt : Int), .int .i64 (ss : Int), .string ⟨#[]⟩, .string ⟨#[]⟩]] w' fun e w'' => ∃ v', e = .returned (.tuple #[v', .int .i64 (oneE f mv)]) ∧ RdF w''.heap.size w'' v' (oneF f mv) ∧ Below w'.heap.size w' w'' := fun w' hb => by
                have := hone mv (by rw [hmv]; show (0 : Nat) ≤ maxLen; decide) (by rw [hmv]; show (0 : Nat) ≤ maxLen; decide) (by rw [hmv]; exact hwf n (by omega)) (by rw [hmv]; exact hwf tt (by omega)) w' hb
                unfold Doings.OnePost at this
                simp only [hmv] at this ⊢
                exact this
              have hone3 : ∀ w', Below w8.heap.size w8 w' → Calls Tryz.prog 21 #[.slice (some ⟨b7, o7, none⟩) f.length c7, .agg #[.int .i64 5, .int .i64 (n : Int), .int .i64 0, .int .i64 0, .string ⟨#[]⟩, .string ⟨#[]⟩]] w' fun e w'' => ∃ v', e = .returned (.tuple #[v', .int .i64 (oneE f rm)]) ∧ RdF w''.heap.size w'' v' (oneF f rm) ∧ Below w'.heap.size w' w'' := fun w' hb => by
                have := hone rm (by rw [hrm]; show (0 : Nat) ≤ maxLen; decide) (by rw [hrm]; show (0 : Nat) ≤ maxLen; decide) (by rw [hrm]; exact hwf n (by omega)) (by rw [hrm]; rfl) w' hb
                unfold Doings.OnePost at this
                simp only [hrm] at this ⊢
                exact this
              have honeB : ∀ (G : Fo), mayB G = true → oneE G bk0 = 0 ∧ oneF G bk0 = f → ∀ w' v, RdF w'.heap.size w' v G → Calls Tryz.prog 21 #[v, .agg #[.int .i64 4, .int .i64 (n : Int), .int .i64 (p : Int), .int .i64 (k : Int), .string ⟨#[]⟩, .string ⟨#[]⟩]] w' fun e w'' => ∃ v', e = .returned (.tuple #[v', .int .i64 0]) ∧ RdF w''.heap.size w'' v' f ∧ Below w'.heap.size w' w'' := fun G hG h2 w' v hr => by
                have := Doings.one_calls w' v G bk0 hr hG (by rw [hbk0]; show (0 : Nat) ≤ maxLen; decide) (by rw [hbk0]; show (0 : Nat) ≤ maxLen; decide) (by rw [hbk0]; exact hwf n (by omega)) (by rw [hbk0]; exact hwf p (by omega))
                unfold Doings.OnePost at this
                rw [h2.1, h2.2] at this
                simp only [hbk0] at this
                exact this
              have hmK := one_may Hm.out rm
              have hone4 := honeB (oneF f rm) hmK ⟨f4, f5⟩
              rw [f1] at hone3
              obtain ⟨K, hK⟩ : ∃ K, K = oneF f rm := ⟨_, rfl⟩
              rw [← hK] at f2 f3 hone3 hone4
              have hnK : n < K.length := by omega
              have hsame := fun w' (hb : Below w8.heap.size w8 w') v9 (hr9 : RdF w'.heap.size w' v9 f) => FSameF.Same_calls w' v9 _ f f hr9 (Hrf.out w' hb)
              simp only [decide_true] at hsame
              have Hone0 := Lib.hid hone0; have Hone3 := Lib.hid hone3; have Hone4 := Lib.hid hone4; have Hsame := Lib.hid hsame; have HKp := Lib.hid f3; have HhoneB := Lib.hid honeB
              have hMt2 := hMt mv bk0 (by rw [hmv]) (by rw [hmv])
              have HMt2 := Lib.hid (fun h0 => hMt2 h0 hbk0)
              have hmM := one_may Hm.out mv
              have HmM := Lib.hid hmM
              clear hone hone0 hone3 hone4 hsame f1 f3 f4 f5 honeB hMt hMo hMt2 hmK hK hbk0 hrm hmv htt hss hno HMo HMt hwf hmM u3 u4
              go_upto_region 18 with fail
              obtain ⟨W1, hW1⟩ : ∃ W1, w8.alloc (.cells #[.int .i64 4, .int .i64 (n : Int), .int .i64 (p : Int), .int .i64 (k : Int), .string ⟨#[]⟩, .string ⟨#[]⟩] 24) = W1 := ⟨_, rfl⟩
              have hrow : W1.heap[w8.heap.size]? = some (.cells #[.int .i64 4, .int .i64 (n : Int), .int .i64 (p : Int), .int .i64 (k : Int), .string ⟨#[]⟩, .string ⟨#[]⟩] 24 (0, 0)) := by rw [← hW1]; exact World.alloc_heap_new w8 _
              have hb1 : Below w8.heap.size w8 W1 := by rw [← hW1]; exact (Below.refl _ _).alloc (Nat.le_refl _) _
              have hbox := fun w' (hb : Below W1.heap.size W1 w') => OpMay.op_cells (o := { kind := 4, id := n, «to» := p, at_ := k }) ((hb.block w8.heap.size (lt_heap hrow)).trans hrow)
              simp only at hbox
              rw [hW1]
              have Hbox := Lib.hid hbox; have HB1 := Lib.hid hb1
              clear hW1 hrow hbox hb1 g4 g5 q0
              by_cases hE : oneE f mv = 0
              · obtain ⟨_, m2, m3⟩ := HMt2.out hE
                rw [hE] at Hone0
                have hone5 := HhoneB.out (oneF f mv) HmM.out ⟨m2, m3⟩
                have Hone5 := Lib.hid hone5
                clear hone5 m2 m3 hE HMt2 HhoneB HmM
                go_upto_region 20 with (go_at_call 21; ((with_reducible refine (Hone0.out _ HB1.out).mono ?_); rintro e w9 ⟨v9, rfl, hr9, hb9⟩; have Hr9 := Lib.hid hr9; have Hb9 := Lib.hid hb9; clear hr9 hb9))
                obtain ⟨z0, z1, z2, z3, z4, z5, zf⟩ := Hbox.out w9 Hb9.out
                go_upto_region 21 with (go_at_call 21; ((with_reducible refine (Hone5.out _ _ Hr9.out).mono ?_); rintro e w10 ⟨v10, rfl, hr10, hb10⟩; have Hr10 := Lib.hid hr10; have Hb10 := Lib.hid (bthen Hb9.out hb10); clear hr10 hb10))
                clear z0 z1 z2 z3 z4 z5 zf
                have Hx10 := Lib.hid (bthen HB1.out Hb10.out)
                go_upto_region 23 with (go_at_call 28; ((with_reducible refine (Hsame.out _ Hx10.out _ Hr10.out).mono ?_); rintro e w11 ⟨rfl, hb11⟩; have Hb11 := Lib.hid (bthen Hb10.out hb11); clear hb11))
                obtain ⟨wt, hwt⟩ : ∃ wt, wt = w11 := ⟨_, rfl⟩
                rw [← hwt]
                have Hbt : Hid (Below W1.heap.size W1 wt) := Lib.hid (by rw [hwt]; exact Hb11.out)
                clear hwt
                have Hb8t := Lib.hid (bthen HB1.out Hbt.out)
                obtain ⟨z0, z1, z2, z3, z4, z5, zf⟩ := Hbox.out wt Hbt.out
                go_upto_region 24 with (go_at_call 21; ((with_reducible refine (Hone3.out _ Hb8t.out).mono ?_); rintro e w12 ⟨v12, rfl, hr12, hb12⟩; obtain ⟨A12, c12, rfl, hl12, hc12, hr12'⟩ := hr12.form; rw [f2] at hl12 hr12'; have Hr12 := Lib.hid hr12'; have Hb12 := Lib.hid hb12; clear hr12 hr12' hb12))
                clear z0 z1 z2 z3 z4 z5 zf
                obtain ⟨z0, z1, z2, z3, z4, z5, zf⟩ := Hbox.out w12 (bthen Hbt.out Hb12.out)
                go_upto_region 25 with (go_at_call 21; ((with_reducible refine (Hone4.out _ _ Hr12.out).mono ?_); rintro e w13 ⟨v13, rfl, hr13, hb13⟩; have Hr13 := Lib.hid hr13; have Hb13 := Lib.hid hb13; clear hr13 hb13))
                obtain ⟨b12, o12, _, _, _, _, hA12, _, _, _, _, _, y4, _⟩ := node_at (Hr12.out.below nodeE_keeps (w' := w13) Hb13.out (Nat.le_refl _)) hnK
                subst hA12
                rw [← atN hnK, HKp.out] at y4
                have hnk2 : (n : Int) < (K.length : Int) := by omega
                have HbE := Lib.hid (bthen Hb8t.out (bthen Hb12.out Hb13.out))
                clear z0 z1 z2 z3 z4 z5 zf
                go_wp2_with (go_at_call 28; ((with_reducible refine (Hsame.out _ HbE.out _ Hr13.out).mono ?_); rintro e w14 ⟨rfl, hbS⟩; have HbF := Lib.hid (bthen HbE.out hbS); clear hbS))
                go_ret
                exact ⟨rfl, bthen Hb.out (bthen Hb8.out HbF.out)⟩
              · have hq : (oneE f mv == 0) = false := by rw [beq_eq_false_iff_ne]; exact hE
                generalize oneE f mv = E at *
                clear HMt2 HhoneB HmM hE
                go_upto_region 23 with (go_at_call 21; ((with_reducible refine (Hone0.out _ HB1.out).mono ?_); rintro e w9 ⟨v9, rfl, hr9, hb9⟩; have Hb9 := Lib.hid hb9; clear hr9 hb9))
                obtain ⟨wt, hwt⟩ : ∃ wt, wt = w9 := ⟨_, rfl⟩
                rw [← hwt]
                have Hbt : Hid (Below W1.heap.size W1 wt) := Lib.hid (by rw [hwt]; exact Hb9.out)
                clear hwt
                have Hb8t := Lib.hid (bthen HB1.out Hbt.out)
                obtain ⟨z0, z1, z2, z3, z4, z5, zf⟩ := Hbox.out wt Hbt.out
                go_upto_region 24 with (go_at_call 21; ((with_reducible refine (Hone3.out _ Hb8t.out).mono ?_); rintro e w12 ⟨v12, rfl, hr12, hb12⟩; obtain ⟨A12, c12, rfl, hl12, hc12, hr12'⟩ := hr12.form; rw [f2] at hl12 hr12'; have Hr12 := Lib.hid hr12'; have Hb12 := Lib.hid hb12; clear hr12 hr12' hb12))
                clear z0 z1 z2 z3 z4 z5 zf
                obtain ⟨z0, z1, z2, z3, z4, z5, zf⟩ := Hbox.out w12 (bthen Hbt.out Hb12.out)
                go_upto_region 25 with (go_at_call 21; ((with_reducible refine (Hone4.out _ _ Hr12.out).mono ?_); rintro e w13 ⟨v13, rfl, hr13, hb13⟩; have Hr13 := Lib.hid hr13; have Hb13 := Lib.hid hb13; clear hr13 hb13))
                obtain ⟨b12, o12, _, _, _, _, hA12, _, _, _, _, _, y4, _⟩ := node_at (Hr12.out.below nodeE_keeps (w' := w13) Hb13.out (Nat.le_refl _)) hnK
                subst hA12
                rw [← atN hnK, HKp.out] at y4
                have hnk2 : (n : Int) < (K.length : Int) := by omega
                have HbE := Lib.hid (bthen Hb8t.out (bthen Hb12.out Hb13.out))
                clear z0 z1 z2 z3 z4 z5 zf
                go_wp2_with (go_at_call 28; ((with_reducible refine (Hsame.out _ HbE.out _ Hr13.out).mono ?_); rintro e w14 ⟨rfl, hbS⟩; have HbF := Lib.hid (bthen HbE.out hbS); clear hbS))
                go_ret
                exact ⟨rfl, bthen Hb.out (bthen Hb8.out HbF.out)⟩
            · have hxb : (L[k] == (n : Int)) = false := by rw [beq_eq_false_iff_ne]; exact hx
              have hxn : (L[k] != (n : Int)) = true := by rw [bne_iff_ne]; exact hx
              have hno2 : ∀ j (hj : j < L.length), j < k + 1 → L[j] ≠ (n : Int) := fun j hj hlt2 => by
                rcases Nat.lt_or_ge j k with h1 | h1
                · exact hno.out j hj h1
                · obtain rfl : j = k := by omega
                  exact hx
              have Hno2 := Lib.hid hno2
              clear hno2 hno hx HMo HMt
              generalize L[k] = x at *
              go_wp2_with fail
              go_round
              case rel => exact ⟨k + 1, by omega, by go_num, Hno2⟩
              case measure => simp [intOf]; omega
end Go.Proofs.YthdenkkllpkplaaGreat.LMoves
end
section
/- The law ApplyMoves answers true at every input, and each argument reads afterwards as it read before; no condition. -/
namespace Go.Proofs.YthdenkkllpkplaaGreat.applyMoves
open Go.ChangeShapes Go.WideShapes Go.ChangeAt Go.RowKit
open Go.ChangeMaps (open_string shut_string)
set_option linter.unusedVariables false
theorem own : ownKnob Tryz.prog.godebug = none := by kernel_rfl
theorem laidOut : laidOutB Tryz.prog = true := by kernel_rfl
set_option maxRecDepth 100000 in
theorem lifted (os : Os) (started : os.Started) (H : Type) (enc : TypeId × Value → H) :
    ReturnsInHanded {} Tryz.checked os 7 .any (Rows.applyMovesSpec.pre6 enc Tryz.prog Tryz.f7 Rows.applyMovesRow.domain false) (Rows.applyMovesSpec.post enc Tryz.prog Tryz.f7 false true false false) := by
  refine returnsInHanded_of_change_sized (C := Tryz.checked) own started (by kernel_rfl) Tryz.func7
    (ChangeSpec.witness6 (enc := enc) (C := Tryz.checked) false ⟨#[], #[.slice none 0 0, .int .u8 0, .int .u8 0, .int .u8 0], []⟩ 8 (by kernel_rfl) (by kernel_rfl) (by kernel_rfl) (by kernel_rfl)) ?_
  intro W base args ds gs before hval0 hW hcnd hsz0 _
  have hsz : (DataW.weightsEach Tryz.prog (Tryz.f7.params.toList ++ Rows.applyMovesSpec.plain.varTypes Tryz.prog) (ds ++ gs)).all (· ≤ reachBytes) = true := hsz0
  have hval : ∀ (j : Nat) t v, Tryz.f7.params[j]? = some t → args[j]? = some v → Value.okWide Tryz.prog W .any base t v := hval0
  have hW' := hW
  obtain ⟨p, q, hA0, hV, rfl, hfz, hnd⟩ := hW
  have hA : DataW.TrodAll enc Tryz.prog W 0 (fun _ => true) true Tryz.f7.params.toList args.toList ds p := hA0
  rw [Tryz.params7] at hA hval hsz
  obtain ⟨v0, vs0, d0, ds0, p0, q0, hargs, rfl, rfl, h0, r0⟩ := trodAll_cons hA
  obtain ⟨v1, vs1, d1, ds1, p1, q1, rfl, rfl, rfl, h1, r1⟩ := trodAll_cons r0
  obtain ⟨v2, vs2, d2, ds2, p2, q2, rfl, rfl, rfl, h2, r2⟩ := trodAll_cons r1
  obtain ⟨v3, vs3, d3, ds3, p3, q3, rfl, rfl, rfl, h3, r3⟩ := trodAll_cons r2
  obtain ⟨rfl, rfl, rfl⟩ := trodAll_nil r3
  obtain rfl : args = #[v0, v1, v2, v3] := by cases args; simp_all
  obtain ⟨rfl, rfl⟩ := trodVars_none hV
  have k0 := h0
  have lt0 : ∀ x ∈ p0, x.block < W.heap.size := by obtain ⟨m, hm⟩ := k0; exact DataW.trod_lt m _ _ _ hm
  obtain ⟨l0, x0⟩ := Rd.open_list 6 Tryz.underlying22 (by kernel_rfl) (by decide) Shapes.opens_op_Op (hval 0 22 v0 rfl rfl) h0
  obtain ⟨a1, rfl, rfl, rfl, w1⟩ := open_int Tryz.underlying5 (hval 1 5 v1 rfl rfl) h1
  obtain ⟨a2, rfl, rfl, rfl, w2⟩ := open_int Tryz.underlying5 (hval 2 5 v2 rfl rfl) h2
  obtain ⟨a3, rfl, rfl, rfl, w3⟩ := open_int Tryz.underlying5 (hval 3 5 v3 rfl rfl) h3
  clear hA0 hval0 hsz0 hsz
  refine (LMoves.law_calls W l0 v0 x0 a1 w1 a2 w2 a3 w3).mono fun e W' ⟨he, bel⟩ => ?_
  subst he
  exact ⟨_, rfl, _, _, _, [], _, [], hW', trodAll_mk1 (shut_bool Tryz.underlying4 _), (trodAll_cons_mk (Below.trod laidOut (by kernel_rfl) (of_decide_eq_true (by kernel_rfl)) k0 bel lt0) (trodAll_cons_mk (shut_int Tryz.underlying5 w1) (trodAll_cons_mk (shut_int Tryz.underlying5 w2) (trodAll_cons_mk (shut_int Tryz.underlying5 w3) trodAll_mk0)))), rfl, bel.frame _, fun h => by cases h⟩
set_option maxHeartbeats 20000000 in
theorem closed : joinedFacts Tryz.pinned.checked.prog 7 Tryz.f7 Rows.applyMovesSpec Rows.applyMovesRow = true := by
  unfold joinedFacts
  repeat' (with_reducible refine Bool.and_eq_true_iff.2 ⟨?_, ?_⟩)
  all_goals as_aux_lemma => kernel_rfl
theorem over : Rows.applyMovesRow.holds Tryz.pinned (OpenSpec.ofChange Rows.applyMovesSpec) :=
  OpenClaim.holds_of_wide 7 Tryz.f7 rfl rfl rfl rfl rfl rfl rfl ⟨rfl, rfl, rfl, rfl, rfl⟩ rfl rfl rfl rfl rfl (by kernel_rfl) Tryz.func7 closed
    (of_decide_eq_true (by kernel_rfl)) (by unfold Func.isWrapper; first | (rw [if_pos (by decide +kernel)]; kernel_rfl) | (rw [if_neg (by decide +kernel)]; exact ⟨rfl, rfl⟩))
    (fun os started H enc _ => lifted os started H enc)
theorem proved : Rows.ApplyMovesSaid := over
end Go.Proofs.YthdenkkllpkplaaGreat.applyMoves
namespace Go.Proofs.YthdenkkllpkplaaGreat
/-- The row, under a short name, for the claim. -/
theorem applyMoves_holds : Rows.ApplyMovesSaid := applyMoves.proved
#print axioms applyMoves_holds
end Go.Proofs.YthdenkkllpkplaaGreat
end
