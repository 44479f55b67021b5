/- The law ApplyAttrs answers true at every input, and each argument reads afterwards as it read before; no condition. -/
import Derived.Test.YthdenkkllpkplaaGreatRows
import Derived.WalkKit
import Derived.ProofKit
import Derived.OpenShut
import Derived.ShutString
import Derived.ChangeOld
import Derived.Below
import Derived.SizedLaws
import Derived.Test.YthdenkkllpkplaaGreatC15
import Derived.Test.YthdenkkllpkplaaGreatC16
section
/- ApplyAttrs. -/
namespace Go.Proofs.YthdenkkllpkplaaGreat.LAttrs
open Go Go.RowKit Go.Proofs.YthdenkkllpkplaaGreat.Seq Go.Proofs.YthdenkkllpkplaaGreat.WS Go.Proofs.YthdenkkllpkplaaGreat.FS Go.Proofs.YthdenkkllpkplaaGreat.Mem Go.Proofs.YthdenkkllpkplaaGreat.Rd Go.Proofs.YthdenkkllpkplaaGreat.Shapes Go.Proofs.YthdenkkllpkplaaGreat.Word Go.Proofs.YthdenkkllpkplaaGreat.FFam Go.Proofs.YthdenkkllpkplaaGreat.Grown Go.Proofs.YthdenkkllpkplaaGreat.Ap
set_option linter.unusedVariables false
set_option linter.unusedSimpArgs false

theorem attrs_le {n : Nd} (h : plainB n = true) : n.attrs.length ≤ 8 := by
  unfold plainB at h
  split at h
  · simp only [Bool.and_eq_true, decide_eq_true_eq] at h; rw [h.2]; decide
  · split at h
    · simp only [Bool.and_eq_true] at h; exact ((attrsB_iff _).1 h.2).2.2
    · split at h
      · simp only [Bool.and_eq_true, decide_eq_true_eq] at h; rw [h.1.2]; decide
      · cases h
theorem had_le (l : List Av) (s : ByteArray) : hadN l s ≤ l.length ∧ hadN l s ≤ 1 := by
  unfold hadN
  cases hf : findA l s with
  | some i => obtain ⟨hi, _⟩ := findA_some hf; simp; omega
  | none => simp
set_option maxRecDepth 100000 in
set_option maxHeartbeats 8000000 in
theorem law_calls (w : World) (l : List Opn) (v : Value) (h : RdO w.heap.size w v l) (a : Int) (ha : (Lit.int .u8 a).wf = true) (name text : ByteArray) :
    Calls Tryz.prog 9 #[v, .int .u8 a, .string name, .string text] w fun e w' => e = .returned (.bool true) ∧ Below w.heap.size w w' := by
  have hrd := fun w' (hb : Below w.heap.size w w') => (h.below opE_keeps (w' := w') hb (Nat.le_refl _)).mono opE_keeps hb.size
  have hbn := bounded_calls w v l h
  obtain ⟨A0, c0, rfl, hl0, hc0, _⟩ := h.form
  simp only [maxLen] at hc0
  have Hrd := Lib.hid hrd
  clear hrd h
  cases hB : bndO l with
  | false =>
    rw [hB] at hbn
    have Hbn := Lib.hid hbn
    clear hbn hB
    go_enter Tryz.func9, Tryz.ntmps9
    go_wp2_with (first | (go_at_call 18; (with_reducible refine (Hbn.out).mono ?_); rintro e w5 ⟨rfl, rfl⟩; clear Hbn) | (go_at_call 19; (with_reducible refine (shown_calls _).mono ?_); rintro e w6 ⟨rfl, hb6⟩; have Hb6 := Lib.hid hb6; clear hb6))
    go_ret
    exact ⟨rfl, Hb6.out⟩
  | true =>
    rw [hB] at hbn
    have Hbn := Lib.hid hbn
    clear hbn hB
    by_cases hn : 100 < name.size
    · have hn' : (100 : Int) < (name.size : Int) := by omega
      go_enter Tryz.func9, Tryz.ntmps9
      go_wp2_with (first | (go_at_call 18; (with_reducible refine (Hbn.out).mono ?_); rintro e w5 ⟨rfl, rfl⟩; clear Hbn) | (go_at_call 19; (with_reducible refine (shown_calls _).mono ?_); rintro e w6 ⟨rfl, hb6⟩; have Hb6 := Lib.hid hb6; clear hb6))
      go_ret
      exact ⟨rfl, Hb6.out⟩
    have hn' : ¬ (100 : Int) < (name.size : Int) := by omega
    by_cases htx : 100 < text.size
    · have ht' : (100 : Int) < (text.size : Int) := by omega
      go_enter Tryz.func9, Tryz.ntmps9
      go_wp2_with (first | (go_at_call 18; (with_reducible refine (Hbn.out).mono ?_); rintro e w5 ⟨rfl, rfl⟩; clear Hbn) | (go_at_call 19; (with_reducible refine (shown_calls _).mono ?_); rintro e w6 ⟨rfl, hb6⟩; have Hb6 := Lib.hid hb6; clear hb6))
      go_ret
      exact ⟨rfl, Hb6.out⟩
    have ht' : ¬ (100 : Int) < (text.size : Int) := by omega
    simp only [Lit.wf, Bool.and_eq_true, decide_eq_true_eq] at ha
    have ha0 : (0 : Int) ≤ a := ha.1
    have ha1 : a ≤ 255 := ha.2
    obtain ⟨an, rfl⟩ : ∃ an : Nat, a = an := ⟨a.toNat, by omega⟩
    clear ha
    go_enter Tryz.func9, Tryz.ntmps9
    go_upto_region 4 with (first | (go_at_call 18; (with_reducible refine (Hbn.out).mono ?_); rintro e w5 ⟨rfl, rfl⟩; clear Hbn) | (go_at_call 19; (with_reducible refine (shown_calls _).mono ?_); rintro e w6 ⟨rfl, hb6⟩; have Hb6 := Lib.hid hb6; clear hb6) | (go_at_call 20; (with_reducible refine (FNew.New_calls _).mono ?_); rintro e w7 ⟨v7, rfl, hr7, hb7⟩; have Hr7 := Lib.hid hr7; have Hb7 := Lib.hid (bthen Hb6.out hb7); clear hr7 hb7))
    go_wp2_with fail
    go_loopw [9, 10] (fun v i wr => ∃ k : Nat, k ≤ l.length ∧ i = .int .i64 k ∧ RdF wr.heap.size wr v (growF (l.take k)) ∧ Below w.heap.size w wr) (fun _ i _ => l.length - (intOf i).toNat)
    case atStart => exact ⟨0, Nat.zero_le _, rfl, Hr7.out, Hb7.out⟩
    case round =>
      obtain ⟨k, hk, rfl, hr, hb⟩ := hrel
      have hmg := grow_may (l.take k)
      by_cases hlt : k < l.length
      · obtain ⟨b, o1, rfl, hbl, g0, g1, g2, g3, g4, g5, m1, m2, m3, m4⟩ := op_at (Hrd.out _ hb) hlt
        have hone := Doings.one_calls wr _ _ l[k] hr hmg m1 m2 m3 m4
        have hs : growF (l.take (k + 1)) = oneF (growF (l.take k)) l[k] := by rw [List.take_succ_eq_append_getElem hlt, grow_snoc]
        obtain ⟨A3, c3, rfl, _, _, _⟩ := hr.form
        have Hone := Lib.hid hone; have Hs := Lib.hid hs; have Hb := Lib.hid hb
        clear hone hs hb hr hmg m1 m2 m3 m4
        generalize l[k] = x at *
        go_wp2_with (go_at_call 21; ((with_reducible refine (Hone.out).mono ?_); rintro e w8 ⟨v8, rfl, hr8, hb8⟩; have Hr8 := Lib.hid hr8; have Hb8 := Lib.hid hb8; clear hr8 hb8))
        go_roundw
        case rel => exact ⟨k + 1, by omega, by go_num, by rw [Hs.out]; exact Hr8.out, bthen Hb.out Hb8.out⟩
        case measure => simp [intOf]; omega
      · have hl : growF (l.take k) = growF l := by rw [List.take_of_length_le (by omega)]
        rw [hl] at hr hmg
        obtain ⟨f, hf⟩ : ∃ f, f = growF l := ⟨_, rfl⟩
        rw [← hf] at hr hmg
        obtain rfl : k = l.length := by omega
        have hlen := may_len hmg
        obtain ⟨A7, c7, rfl, hl7, hc7, hr7⟩ := hr.form
        simp only [maxLen] at hc7
        obtain ⟨b7, o7, _, rfl, hb7lt, _⟩ := hr7.at_ (i := 0) (by omega)
        have Hm := Lib.hid hmg; have HR := Lib.hid hr7; have Hb := Lib.hid hb
        clear hl hf hmg hr hr7 hb hlt hk hb7lt Hrd Hr7 Hb7
        obtain ⟨n, hnn⟩ : ∃ n, n = an % f.length := ⟨_, rfl⟩
        have hnl : n < f.length := by rw [hnn]; exact Nat.mod_lt _ (by omega)
        have hm1 : (an : Int) % (f.length : Int) = (n : Int) := by rw [hnn]; omega
        have hm2 : Int.tmod (an : Int) (f.length : Int) = (n : Int) := by rw [Int.tmod_eq_emod_of_nonneg (by omega)]; exact hm1
        have hmy := FMay.May_calls wr _ f HR.out (fun x hx => by have := Work.may_kids Hm.out x hx; omega)
        rw [Hm.out] at hmy
        obtain ⟨o, ho⟩ : ∃ o : Opn, o = { kind := 6, id := n, name := name, text := text } := ⟨_, rfl⟩
        obtain ⟨d, hd⟩ : ∃ d : Opn, d = { kind := 7, id := n, name := name } := ⟨_, rfl⟩
        have hat := one_attrs Hm.out hnl (by omega) (by omega) o d ho hd
        have hone : ∀ w', Below wr.heap.size wr w' → Calls Tryz.prog 21 #[.slice (some ⟨b7, o7, none⟩) f.length c7, .agg #[.int .i64 6, .int .i64 (n : Int), .int .i64 0, .int .i64 0, .string name, .string text]] w' fun e w'' => ∃ v', e = .returned (.tuple #[v', .int .i64 (oneE f o)]) ∧ RdF w''.heap.size w'' v' (oneF f o) ∧ Below w'.heap.size w' w'' := fun w' hb => by
          have := Doings.one_calls w' _ f o ((HR.out.below nodeE_keeps (w' := w') hb (Nat.le_refl _)).mono nodeE_keeps hb.size) Hm.out (by rw [ho]; show name.size ≤ maxLen; simp only [maxLen]; omega) (by rw [ho]; show text.size ≤ maxLen; simp only [maxLen]; omega) (by rw [ho]; exact FTops.wf_i64 (by show -9223372036854775808 ≤ (n : Int); omega) (by show (n : Int) ≤ 9223372036854775807; omega)) (by rw [ho]; rfl)
          unfold Doings.OnePost at this
          simp only [ho] at this ⊢
          exact this
        have hmG := one_may Hm.out o
        have hmyd := fun (v9 : Value) w' (hr : RdF w'.heap.size w' v9 (oneF f o)) => Doings.one_calls w' v9 (oneF f o) d hr hmG (by rw [hd]; show name.size ≤ maxLen; simp only [maxLen]; omega) (by rw [hd]; show (0 : Nat) ≤ maxLen; decide) (by rw [hd]; exact FTops.wf_i64 (by show -9223372036854775808 ≤ (n : Int); omega) (by show (n : Int) ≤ 9223372036854775807; omega)) (by rw [hd]; rfl)
        have hone2 : ∀ v9 w', RdF w'.heap.size w' v9 (oneF f o) → Calls Tryz.prog 21 #[v9, .agg #[.int .i64 7, .int .i64 (n : Int), .int .i64 0, .int .i64 0, .string name, .string ⟨#[]⟩]] w' fun e w'' => ∃ v', e = .returned (.tuple #[v', .int .i64 (oneE (oneF f o) d)]) ∧ RdF w''.heap.size w'' v' (oneF (oneF f o) d) ∧ Below w'.heap.size w' w'' := fun v9 w' hr => by
          have := hmyd v9 w' hr
          unfold Doings.OnePost at this
          simp only [hd] at this ⊢
          exact this
        have Hmy := Lib.hid hmy
        clear hmy hnn hmyd ho hd
        rcases hat with ⟨e1, e2, e3⟩ | ⟨e1, e2, e3, e4, e5, e6, e7, e8⟩
        · rw [e2] at hone
          have Hone := Lib.hid hone
          have hsame := fun w' (hb : Below wr.heap.size wr w') v9 (hr9 : RdF w'.heap.size w' v9 f) => FSameF.Same_calls w' _ v9 f f ((HR.out.below nodeE_keeps (w' := w') hb (Nat.le_refl _)).mono nodeE_keeps hb.size) hr9
          simp only [decide_true] at hsame
          have Hsame := Lib.hid hsame
          clear hone hone2 hsame e1 e2 hmG
          generalize oneE f o = E at *
          rcases e3 with rfl | rfl | rfl
          all_goals
            go_wp2_with (first
              | (go_at_call 27; (with_reducible refine (Hmy.out).mono ?_); rintro e w8 ⟨rfl, hb8⟩; have Hb8 := Lib.hid hb8; clear hb8)
              | (go_at_call 21; ((with_reducible refine (Hone.out _ Hb8.out).mono ?_); rintro e w9 ⟨v9, rfl, hr9, hb9⟩; have Hr9 := Lib.hid hr9; have Hb9 := Lib.hid (bthen Hb8.out hb9); clear hr9 hb9))
              | (go_at_call 28; ((with_reducible refine (Hsame.out _ Hb9.out _ Hr9.out).mono ?_); rintro e w10 ⟨rfl, hb10⟩; have Hb10 := Lib.hid (bthen Hb9.out hb10); clear hb10)))
            go_ret
            exact ⟨rfl, bthen Hb.out Hb10.out⟩
        · rw [e1] at hone
          rw [e4] at hone2
          obtain ⟨G, hG⟩ : ∃ G, G = oneF f o := ⟨_, rfl⟩
          obtain ⟨Hh, hHh⟩ : ∃ Hh, Hh = oneF (oneF f o) d := ⟨_, rfl⟩
          rw [← hG] at hone hone2 e2 e3 e5 e6 e8 hmG
          rw [hG, ← hHh, ← hG] at hone2
          rw [hG, ← hHh] at e5 e6 e8
          obtain ⟨f1, f2, _, f4, f5⟩ := setA_facts (s := name) (t := text) e7
          have Hone := Lib.hid hone; have Hone2 := Lib.hid hone2
          clear hone hone2 e1 e4 hG hHh e7
          go_upto_region 15 with (first
            | (go_at_call 27; (with_reducible refine (Hmy.out).mono ?_); rintro e w8 ⟨rfl, hb8⟩; have Hb8 := Lib.hid hb8; clear hb8)
            | (go_at_call 21; ((with_reducible refine (Hone.out _ Hb8.out).mono ?_); rintro e w9 ⟨v9, rfl, hr9, hb9⟩; have Hr9 := Lib.hid hr9; have Hb9 := Lib.hid (bthen Hb8.out hb9); clear hr9 hb9 Hone))
            | (go_at_call 21; ((with_reducible refine (Hone2.out _ _ Hr9.out).mono ?_); rintro e w10 ⟨v10, rfl, hr10, hb10⟩; have Hr10 := Lib.hid hr10; have HB10 := Lib.hid hb10; have Hb10 := Lib.hid (bthen Hb9.out hb10); clear hr10 hb10)))
          obtain ⟨A9, c9, rfl, hl9, hc9, hr9⟩ := Hr9.out.form
          obtain ⟨A10, c10, rfl, hl10, hc10, hr10⟩ := Hr10.out.form
          rw [e5] at hl10 hr10
          have hf10 := (HR.out.below nodeE_keeps (w' := w10) Hb10.out (Nat.le_refl _)).mono nodeE_keeps Hb10.out.size
          have hg10 := (hr9.below nodeE_keeps (w' := w10) HB10.out (Nat.le_refl _)).mono nodeE_keeps HB10.out.size
          have hnG : n < G.length := by omega
          have hnH : n < Hh.length := by omega
          obtain ⟨bf, of, Aa, ca, _, _, hAf, _, _, _, _, d3, _, _, ra, _, la, lca, _, _, _, _, _, _⟩ := node_at hf10 hnl
          obtain ⟨bg, og, Ab, cb, _, _, hAg, _, _, _, _, x3, _, _, rb, _, lb, lcb, _, _, _, _, _, _⟩ := node_at hg10 hnG
          obtain ⟨bh, oh, Ac, cc, _, _, hAh, _, _, _, _, y3, _, _, rc, _, lc, lcc, _, _, _, _, _, _⟩ := node_at hr10 hnH
          injection hAf with hAf
          injection hAf with k1 k2 _
          subst k1 k2
          subst hAg hAh
          rw [← atN hnl] at d3 ra la
          rw [← atN hnG, e3] at x3 rb lb
          rw [← atN hnH, e6] at y3 rc lc
          have hsame := FSameF.Same_calls w10 _ _ Hh f hr10 hf10
          have HF := Lib.hid (fun w' (hb : Below w10.heap.size w10 w') => (hf10.below nodeE_keeps (w' := w') hb (Nat.le_refl _)).mono nodeE_keeps hb.size); have HH := Lib.hid (fun w' (hb : Below w10.heap.size w10 w') => (hr10.below nodeE_keeps (w' := w') hb (Nat.le_refl _)).mono nodeE_keeps hb.size)
          have Hsame := Lib.hid hsame; have E8 := Lib.hid e8; have F5 := Lib.hid f5
          clear hsame e8 f5 hr9 hr10 hf10 hg10 Hr9 Hr10 Hone2 Hmy rc e3 e6
          have hL8 := attrs_le ((may_is Hm.out).node n hnl).1
          have hhl := had_le (at_ f (n : Int)).attrs name
          have f1' : (setA (at_ f (n : Int)).attrs name text).length = (at_ f (n : Int)).attrs.length + 1 - hadN (at_ f (n : Int)).attrs name := f1
          have f4' : (delA (setA (at_ f (n : Int)).attrs name text) name).length = (at_ f (n : Int)).attrs.length - hadN (at_ f (n : Int)).attrs name := f4
          have hz : hadN (at_ f (n : Int)).attrs name = 0 → findA (at_ f (n : Int)).attrs name = none := fun h0 => by
            unfold hadN at h0
            cases hq : findA (at_ f (n : Int)).attrs name with
            | none => rfl
            | some i => rw [hq] at h0; cases h0
          clear f1 f4
          have HZ := Lib.hid (fun h0 => E8.out (F5.out (hz h0)))
          clear hz E8 F5
          generalize delA (setA (at_ f (n : Int)).attrs name text) name = DA at *
          generalize setA (at_ f (n : Int)).attrs name text = SA at *
          generalize (at_ f (n : Int)).attrs = La at *
          simp only [maxLen] at lca lcb lcc hc9 hc10
          have F2 := Lib.hid f2; have HD := Lib.hid f4'; have HS := Lib.hid f1'; have HL := Lib.hid hhl; have Ra := Lib.hid ra; have Rb := Lib.hid rb; have Y3 := Lib.hid y3
          clear f2 f1' f4' hhl ra rb y3
          go_wp2_with fail
          go_loop [16, 17] (fun h i => ∃ k c : Nat, k ≤ La.length ∧ h = .int .i64 c ∧ i = .int .i64 k ∧ Hid (c = if (La.take k).any (fun a => decide (a.name = name)) then 1 else 0)) (fun _ i => La.length - (intOf i).toNat)
          case atStart => exact ⟨0, 0, Nat.zero_le _, rfl, rfl, Lib.hid rfl⟩
          case round =>
            obtain ⟨k, c, hk, rfl, rfl, hc⟩ := hrel
            by_cases hlt : k < La.length
            · obtain ⟨ba, oa, rfl, hba, q0, q1, mm1, mm2⟩ := FAttr.attr_at Ra.out hlt
              have htk : (La.take (k + 1)).any (fun a => decide (a.name = name)) = ((La.take k).any (fun a => decide (a.name = name)) || decide (La[k].name = name)) := by rw [List.take_succ_eq_append_getElem hlt, List.any_append]; simp
              generalize La[k] = x at *
              obtain ⟨xn, xv⟩ := x
              simp only at *
              by_cases hx : xn = name
              · have hc1 : 1 = if (La.take (k + 1)).any (fun a => decide (a.name = name)) then 1 else 0 := by rw [htk, decide_eq_true hx]; simp
                have Hc1 := Lib.hid hc1
                clear hc1 htk hc mm1 mm2 q1 x3
                go_wp2_with fail
                go_round
                case rel => exact ⟨k + 1, 1, by omega, rfl, by go_num, Hc1⟩
                case measure => simp [intOf]; omega
              · have hc1 : c = if (La.take (k + 1)).any (fun a => decide (a.name = name)) then 1 else 0 := by rw [htk, decide_eq_false hx, Bool.or_false]; exact hc.out
                have hxb : (xn.toList == name.toList) = false := by rw [FSame.str_beq]; exact decide_eq_false hx
                have Hc1 := Lib.hid hc1
                clear hc1 htk hc mm1 mm2 q1 x3
                go_wp2_with fail
                go_round
                case rel => exact ⟨k + 1, c, by omega, rfl, by go_num, Hc1⟩
                case measure => simp [intOf]; omega
            · have hc2 : c = hadN La name := by rw [hc.out, List.take_of_length_le (by omega), had_any]
              obtain rfl : k = La.length := by omega
              have Hc2 := Lib.hid hc2
              clear hc hlt hk hc2
              go_wp2_with fail
              go_loop [18, 19] (fun h i => ∃ k c : Nat, k ≤ SA.length ∧ c ≤ k ∧ h = .int .i64 c ∧ i = .int .i64 k ∧ Hid (c = (SA.take k).countP (sameA name text))) (fun _ i => SA.length - (intOf i).toNat)
              case atStart => exact ⟨0, 0, Nat.zero_le _, Nat.le_refl _, rfl, rfl, Lib.hid rfl⟩
              case round =>
                obtain ⟨k, m, hk, hmk, rfl, rfl, hm⟩ := hrel
                by_cases hlt : k < SA.length
                · obtain ⟨ba, oa, rfl, hba, q0, q1, mm1, mm2⟩ := FAttr.attr_at Rb.out hlt
                  have htk : (SA.take (k + 1)).countP (sameA name text) = (SA.take k).countP (sameA name text) + if sameA name text SA[k] = true then 1 else 0 := by
                    rw [List.take_succ_eq_append_getElem hlt, List.countP_append, List.countP_singleton]
                  unfold sameA at htk
                  generalize SA[k] = x at *
                  obtain ⟨xn, xv⟩ := x
                  simp only at *
                  by_cases hx : xn = name
                  · by_cases hy : xv = text
                    · have hc1 : m + 1 = (SA.take (k + 1)).countP (sameA name text) := by
                        unfold sameA
                        rw [htk, decide_eq_true hx, decide_eq_true hy, hm.out]; rfl
                      have Hc1 := Lib.hid hc1
                      clear hc1 htk hm mm1 mm2 d3
                      go_wp2_with fail
                      go_round
                      case rel => exact ⟨k + 1, m + 1, by omega, by omega, by go_num, by go_num, Hc1⟩
                      case measure => simp [intOf]; omega
                    · have hc1 : m = (SA.take (k + 1)).countP (sameA name text) := by
                        unfold sameA
                        rw [htk, decide_eq_true hx, decide_eq_false hy, hm.out]; rfl
                      have hxb : (xv.toList == text.toList) = false := by rw [FSame.str_beq]; exact decide_eq_false hy
                      have Hc1 := Lib.hid hc1
                      clear hc1 htk hm mm1 mm2 d3
                      go_wp2_with fail
                      go_round
                      case rel => exact ⟨k + 1, m, by omega, by omega, rfl, by go_num, Hc1⟩
                      case measure => simp [intOf]; omega
                  · have hc1 : m = (SA.take (k + 1)).countP (sameA name text) := by
                      unfold sameA
                      rw [htk, decide_eq_false hx, hm.out]; rfl
                    have hxb : (xn.toList == name.toList) = false := by rw [FSame.str_beq]; exact decide_eq_false hx
                    have Hc1 := Lib.hid hc1
                    clear hc1 htk hm mm1 mm2 d3
                    go_wp2_with fail
                    go_round
                    case rel => exact ⟨k + 1, m, by omega, by omega, rfl, by go_num, Hc1⟩
                    case measure => simp [intOf]; omega
                · have hm1' : m = 1 := by rw [hm.out, List.take_of_length_le (by omega), F2.out]
                  obtain rfl : k = SA.length := by omega
                  subst hm1'
                  have y3 := Y3.out
                  have hSl := HS.out
                  have hDl := HD.out
                  have hLl := HL.out
                  rw [← Hc2.out] at hSl hDl hLl
                  have hq : c = 0 ∨ c = 1 := by omega
                  rcases hq with rfl | rfl
                  · rw [show SA.length = La.length + 1 by omega] at x3 lb ⊢
                    rw [show DA.length = La.length by omega] at y3 lc
                    have hHf := HZ.out Hc2.out.symm
                    have hsame := Hsame.out
                    rw [decide_eq_true hHf] at hsame
                    have hcells := fun w' (hb : Below w10.heap.size w10 w') => (⟨cell_grow hb d3, cell_grow hb x3, cell_grow hb y3⟩ : _ ∧ _ ∧ _)
                    have hsm2 : ∀ w', w' = w10 ∨ w' = w10.drew → Calls Tryz.prog 28 #[.slice (some ⟨bh, oh, none⟩) f.length c10, .slice (some ⟨b7, o7, none⟩) f.length c7] w' fun e w'' => e = .returned (.bool true) ∧ Below w10.heap.size w10 w'' := by
                      rintro w' (rfl | rfl)
                      · exact hsame
                      · have h2 := FSameF.Same_calls w10.drew _ _ Hh f (HH.out _ (Below.refl _ _).drew) (HF.out _ (Below.refl _ _).drew)
                        rw [decide_eq_true hHf] at h2
                        exact h2.mono (fun e w'' hx => ⟨hx.1, (Below.refl _ w10).drew.trans hx.2⟩)
                    have p1 : IntKind.i64.wrap ((La.length : Int) + 1) = (La.length : Int) + 1 := by rw [IntKind.wrap_i64]; omega
                    have p2 : IntKind.i64.wrap ((La.length : Int) + 1 - 0) = (La.length : Int) + 1 := by rw [IntKind.wrap_i64]; omega
                    have p3 : IntKind.i64.wrap ((La.length : Int) - 0) = (La.length : Int) := by rw [IntKind.wrap_i64]; omega
                    have p4 : IntKind.i64.wrap (La.length : Int) = (La.length : Int) := by rw [IntKind.wrap_i64]; omega
                    have Hsm := Lib.hid hsm2; have Hcells := Lib.hid hcells
                    clear hsm2 hcells hsame hHf HZ Hsame Hc2 hm hSl hDl hLl Ra Rb HF HH
                    go_wp2_with fail
                    go_region_held3 (fun w' => w'.cell? ⟨b7, o7 + n * 6 + 3, none⟩ = some (.slice Aa La.length ca) ∧ w'.cell? ⟨bg, og + n * 6 + 3, none⟩ = some (.slice Ab (La.length + 1) cb) ∧ w'.cell? ⟨bh, oh + n * 6 + 3, none⟩ = some (.slice Ac La.length cc))
                      (first | exact ⟨d3, x3, y3⟩ | exact y10 | go_keep)
                      (first | (go_at_call 28; (first | (with_reducible refine (Hsm.out _ (.inl rfl)).mono ?_) | (with_reducible refine (Hsm.out _ (.inr rfl)).mono ?_)); rintro e w11 ⟨rfl, hb11⟩; have y10 := Hcells.out w11 hb11; have Hb11 := Lib.hid hb11; clear hb11))
                    go_wp2_with fail
                    go_ret
                    exact ⟨rfl, bthen Hb.out (bthen Hb10.out Hb11.out)⟩
                  · obtain ⟨m, hm2⟩ : ∃ m, La.length = m + 1 := ⟨La.length - 1, by omega⟩
                    rw [show SA.length = m + 1 by omega] at x3 lb ⊢
                    rw [show DA.length = m by omega] at y3 lc
                    rw [hm2] at d3 la ⊢
                    have p1 : IntKind.i64.wrap ((m : Int) + 1 + 1) = (m : Int) + 1 + 1 := by rw [IntKind.wrap_i64]; omega
                    have p2 : IntKind.i64.wrap ((m : Int) + 1 + 1 - 1) = (m : Int) + 1 := by rw [IntKind.wrap_i64]; omega
                    have p3 : IntKind.i64.wrap ((m : Int) + 1 - 1) = (m : Int) := by rw [IntKind.wrap_i64]; omega
                    clear HZ Hsame Hc2 hm hSl hDl hLl Ra Rb HF HH hm2
                    go_wp2_with fail
                    go_region
                    all_goals go_wp2_with fail
                    all_goals
                      go_ret
                      exact ⟨rfl, by first | exact bthen Hb.out Hb10.out | exact (bthen Hb.out Hb10.out).drew⟩
end Go.Proofs.YthdenkkllpkplaaGreat.LAttrs
end
section
/- The law ApplyAttrs answers true at every input, and each argument reads afterwards as it read before; no condition. -/
namespace Go.Proofs.YthdenkkllpkplaaGreat.applyAttrs
open Go.ChangeShapes Go.WideShapes Go.ChangeAt Go.RowKit
open Go.ChangeMaps (open_string shut_string)
set_option linter.unusedVariables false
theorem own : ownKnob Tryz.prog.godebug = none := by kernel_rfl
theorem laidOut : laidOutB Tryz.prog = true := by kernel_rfl
set_option maxRecDepth 100000 in
theorem lifted (os : Os) (started : os.Started) (H : Type) (enc : TypeId × Value → H) :
    ReturnsInHanded {} Tryz.checked os 9 .any (Rows.applyAttrsSpec.pre6 enc Tryz.prog Tryz.f9 Rows.applyAttrsRow.domain false) (Rows.applyAttrsSpec.post enc Tryz.prog Tryz.f9 false true false false) := by
  refine returnsInHanded_of_change_sized (C := Tryz.checked) own started (by kernel_rfl) Tryz.func9
    (ChangeSpec.witness6 (enc := enc) (C := Tryz.checked) false ⟨#[], #[.slice none 0 0, .int .u8 0, .string ByteArray.empty, .string ByteArray.empty], []⟩ 8 (by kernel_rfl) (by kernel_rfl) (by kernel_rfl) (by kernel_rfl)) ?_
  intro W base args ds gs before hval0 hW hcnd hsz0 _
  have hsz : (DataW.weightsEach Tryz.prog (Tryz.f9.params.toList ++ Rows.applyAttrsSpec.plain.varTypes Tryz.prog) (ds ++ gs)).all (· ≤ reachBytes) = true := hsz0
  have hval : ∀ (j : Nat) t v, Tryz.f9.params[j]? = some t → args[j]? = some v → Value.okWide Tryz.prog W .any base t v := hval0
  have hW' := hW
  obtain ⟨p, q, hA0, hV, rfl, hfz, hnd⟩ := hW
  have hA : DataW.TrodAll enc Tryz.prog W 0 (fun _ => true) true Tryz.f9.params.toList args.toList ds p := hA0
  rw [Tryz.params9] at hA hval hsz
  obtain ⟨v0, vs0, d0, ds0, p0, q0, hargs, rfl, rfl, h0, r0⟩ := trodAll_cons hA
  obtain ⟨v1, vs1, d1, ds1, p1, q1, rfl, rfl, rfl, h1, r1⟩ := trodAll_cons r0
  obtain ⟨v2, vs2, d2, ds2, p2, q2, rfl, rfl, rfl, h2, r2⟩ := trodAll_cons r1
  obtain ⟨v3, vs3, d3, ds3, p3, q3, rfl, rfl, rfl, h3, r3⟩ := trodAll_cons r2
  obtain ⟨rfl, rfl, rfl⟩ := trodAll_nil r3
  obtain rfl : args = #[v0, v1, v2, v3] := by cases args; simp_all
  obtain ⟨rfl, rfl⟩ := trodVars_none hV
  have k0 := h0
  have lt0 : ∀ x ∈ p0, x.block < W.heap.size := by obtain ⟨m, hm⟩ := k0; exact DataW.trod_lt m _ _ _ hm
  obtain ⟨l0, x0⟩ := Rd.open_list 6 Tryz.underlying22 (by kernel_rfl) (by decide) Shapes.opens_op_Op (hval 0 22 v0 rfl rfl) h0
  obtain ⟨a1, rfl, rfl, rfl, w1⟩ := open_int Tryz.underlying5 (hval 1 5 v1 rfl rfl) h1
  obtain ⟨a2, rfl, rfl, rfl, y2⟩ := open_string Tryz.underlying9 (hval 2 9 v2 rfl rfl) h2
  obtain ⟨a3, rfl, rfl, rfl, y3⟩ := open_string Tryz.underlying9 (hval 3 9 v3 rfl rfl) h3
  clear hA0 hval0 hsz0 hsz
  refine (LAttrs.law_calls W l0 v0 x0 a1 w1 a2 a3).mono fun e W' ⟨he, bel⟩ => ?_
  subst he
  exact ⟨_, rfl, _, _, _, [], _, [], hW', trodAll_mk1 (shut_bool Tryz.underlying4 _), (trodAll_cons_mk (Below.trod laidOut (by kernel_rfl) (of_decide_eq_true (by kernel_rfl)) k0 bel lt0) (trodAll_cons_mk (shut_int Tryz.underlying5 w1) (trodAll_cons_mk (shut_string Tryz.underlying9 y2) (trodAll_cons_mk (shut_string Tryz.underlying9 y3) trodAll_mk0)))), rfl, bel.frame _, fun h => by cases h⟩
set_option maxHeartbeats 20000000 in
theorem closed : joinedFacts Tryz.pinned.checked.prog 9 Tryz.f9 Rows.applyAttrsSpec Rows.applyAttrsRow = true := by
  unfold joinedFacts
  repeat' (with_reducible refine Bool.and_eq_true_iff.2 ⟨?_, ?_⟩)
  all_goals as_aux_lemma => kernel_rfl
theorem over : Rows.applyAttrsRow.holds Tryz.pinned (OpenSpec.ofChange Rows.applyAttrsSpec) :=
  OpenClaim.holds_of_wide 9 Tryz.f9 rfl rfl rfl rfl rfl rfl rfl ⟨rfl, rfl, rfl, rfl, rfl⟩ rfl rfl rfl rfl rfl (by kernel_rfl) Tryz.func9 closed
    (of_decide_eq_true (by kernel_rfl)) (by unfold Func.isWrapper; first | (rw [if_pos (by decide +kernel)]; kernel_rfl) | (rw [if_neg (by decide +kernel)]; exact ⟨rfl, rfl⟩))
    (fun os started H enc _ => lifted os started H enc)
theorem proved : Rows.ApplyAttrsSaid := over
end Go.Proofs.YthdenkkllpkplaaGreat.applyAttrs
namespace Go.Proofs.YthdenkkllpkplaaGreat
/-- The row, under a short name, for the claim. -/
theorem applyAttrs_holds : Rows.ApplyAttrsSaid := applyAttrs.proved
#print axioms applyAttrs_holds
end Go.Proofs.YthdenkkllpkplaaGreat
end
