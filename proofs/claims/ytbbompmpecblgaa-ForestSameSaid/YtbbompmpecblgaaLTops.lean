/- ForestTops. -/
import Derived.Test.YtbbompmpecblgaaLBnd
import Derived.Test.YtbbompmpecblgaaLShown
import Derived.Test.YtbbompmpecblgaaFTopsP
namespace Go.Proofs.Ytbbompmpecblgaa.LTops
open Go Go.RowKit Go.Proofs.Ytbbompmpecblgaa.Seq Go.Proofs.Ytbbompmpecblgaa.WS Go.Proofs.Ytbbompmpecblgaa.FS Go.Proofs.Ytbbompmpecblgaa.Mem Go.Proofs.Ytbbompmpecblgaa.Rd Go.Proofs.Ytbbompmpecblgaa.Shapes Go.Proofs.Ytbbompmpecblgaa.Word Go.Proofs.Ytbbompmpecblgaa.FFam Go.Proofs.Ytbbompmpecblgaa.LBnd
set_option linter.unusedVariables false
set_option linter.unusedSimpArgs false

theorem own_at {w : World} {base : Nat} {e : TypeId} {A : Option Addr} {n c : Nat} {l : List Int} (h : w.ownsRow base e 1 (.slice A n c) n (l.map (Value.int .i64))) (hn : 0 < n) (hl : l.length = n) :
    ∃ g, A = some ⟨g, 0, none⟩ ∧ g < w.heap.size ∧ ∀ j (hj : j < l.length), w.cell? ⟨g, j, none⟩ = some (.int .i64 l[j]) := by
  have hc := fun gg hgg i s hi => h.cells (g := gg) hgg i s hi
  have hlt := h.lt
  rcases h.2 with ⟨h1, h0⟩ | ⟨g, cap, cur, h1, _⟩
  · omega
  · injection h1 with h1 _ _
    subst h1
    refine ⟨g, rfl, (hlt g rfl).2, fun j hj => ?_⟩
    have := hc g rfl j (.int .i64 l[j]) (by rw [List.getElem?_map, List.getElem?_eq_getElem hj]; rfl)
    rwa [Addr.add_lit, Nat.zero_add] at this
set_option maxRecDepth 100000 in
set_option maxHeartbeats 4000000 in
theorem law_calls (w : World) (f : Fo) (v : Value) (h : RdF w.heap.size w v f) : Calls Try.prog 9 #[v] w fun e w' => e = .returned (.bool true) ∧ Below w.heap.size w w' := by
  have hbn := bounded_calls w v f h
  obtain ⟨A0, c0, rfl, hl0, hc0, h'⟩ := h.form
  simp only [maxLen] at hc0
  have hrd := fun w' (hb : Below w.heap.size w w') => (h'.below nodeE_keeps (w' := w') hb (Nat.le_refl _)).mono nodeE_keeps hb.size
  cases hB : bndB f with
  | false =>
    rw [hB] at hbn
    have Hbn := Lib.hid hbn
    clear hbn h h' hrd
    go_enter Try.func9, Try.ntmps9
    go_wp2_with (first | (go_at_call 27; (with_reducible refine (Hbn.out).mono ?_); rintro e w5 ⟨rfl, rfl⟩) | (go_at_call 28; (with_reducible refine (LShown.shown_calls _).mono ?_); rintro e w6 ⟨rfl, hb6⟩; have Hb6 := Lib.hid hb6; clear hb6))
    go_ret
    exact ⟨rfl, Hb6.out⟩
  | true =>
    rw [hB] at hbn
    have hkm := bnd_kids hB
    have hmy := FMay.May_calls w _ f h hkm
    cases hm : mayB f with
    | false =>
      rw [hm] at hmy
      have Hbn := Lib.hid hbn; have Hmy := Lib.hid hmy
      clear hbn hmy h h' hrd hkm
      go_enter Try.func9, Try.ntmps9
      go_wp2_with (first | (go_at_call 27; (with_reducible refine (Hbn.out).mono ?_); rintro e w5 ⟨rfl, rfl⟩) | (go_at_call 32; (with_reducible refine (Hmy.out).mono ?_); rintro e w5 ⟨rfl, hb5⟩; have Hb5 := Lib.hid hb5; clear hb5) | (go_at_call 28; (with_reducible refine (LShown.shown_calls _).mono ?_); rintro e w6 ⟨rfl, hb6⟩; have Hb6 := Lib.hid hb6; clear hb6))
      go_ret
      exact ⟨rfl, bthen Hb5.out Hb6.out⟩
    | true =>
      rw [hm] at hmy
      have hbl := fun w' hb t i => FBelow.Below_calls w' _ f t i (hrd w' hb) hkm
      have htp := fun w' hb => FTops.Tops_calls w' _ f (hrd w' hb) hkm
      rw [hm, if_pos rfl] at htp
      have hone := fun i hi => top_one hm (i := i) hi
      have hslf := fun i hi => below_self hm (i := i) hi
      have hpar := fun i hi h0 => below_parent hm (i := i) hi h0
      obtain ⟨TL, hTL⟩ := tops_head hm
      have hlen := (may_len hm).2
      have Hbn := Lib.hid hbn; have Hmy := Lib.hid hmy; have Hbl := Lib.hid hbl; have Htp := Lib.hid htp; have Hone := Lib.hid hone; have Hslf := Lib.hid hslf; have Hpar := Lib.hid hpar; have HTL := Lib.hid hTL; have Hrd := Lib.hid hrd
      obtain ⟨T, hT⟩ : ∃ T, T = topsL f := ⟨_, rfl⟩
      have HT := Lib.hid hT
      have htl : T.length ≤ 60 := by rw [hT]; exact Nat.le_trans (FTops.topsTo_le f f.length) hlen
      have htl0 : 0 < T.length := by rw [hT, hTL]; simp
      rw [← hT] at Htp
      clear hbn hmy h h' hrd hkm hbl htp hone hslf hpar hTL hm hB hT
      go_enter Try.func9, Try.ntmps9
      go_wp2_with (first
        | (go_at_call 27; (with_reducible refine (Hbn.out).mono ?_); rintro e w5 ⟨rfl, rfl⟩)
        | (go_at_call 32; (with_reducible refine (Hmy.out).mono ?_); rintro e w5 ⟨rfl, hb5⟩; have Hb5 := Lib.hid hb5; clear hb5)
        | (go_at_call 28; (with_reducible refine (LShown.shown_calls _).mono ?_); rintro e w6 ⟨rfl, hb6⟩; have Hb6 := Lib.hid (bthen Hb5.out hb6); clear hb6)
        | (go_at_call 33; (with_reducible refine (Htp.out _ Hb6.out).mono ?_); rintro e w7 ⟨v7, rfl, ho7, hb7⟩; obtain ⟨A7, c7, rfl⟩ := LShown.slice_of ho7; have Ho7 := Lib.hid ho7; have Hb7 := Lib.hid (bthen Hb6.out hb7); clear hb7 ho7))
      obtain ⟨g7, rfl, hg7, hcell7⟩ := own_at Ho7.out htl0 rfl
      have Hcell := Lib.hid (fun wr (hb : Below w7.heap.size w7 wr) j (hj : j < T.length) => cell_grow hb (hcell7 j hj))
      have Hc7 := Lib.hid (fun wr (hb : Below w7.heap.size w7 wr) => bthen Hb7.out hb)
      clear hg7 hcell7 Ho7
      go_loopw [4] (fun i wr => ∃ k : Nat, k ≤ f.length ∧ i = .int .i64 k ∧ Below w7.heap.size w7 wr) (fun i _ => f.length - (intOf i).toNat)
      case atStart => exact ⟨0, Nat.zero_le _, rfl, Below.refl _ _⟩
      case round =>
        obtain ⟨k, hk, rfl, hb⟩ := hrel
        have Hb := Lib.hid hb
        clear hb
        obtain ⟨wo, rfl⟩ : ∃ wo : World, wo = wr := ⟨_, rfl⟩
        by_cases hlt : k < f.length
        · have hn : isNode f (k : Int) = true := (node_iff _ _).2 ⟨by omega, by omega⟩
          have hcnt := Hone.out k hn
          rw [← HT.out] at hcnt
          have hsl := Hslf.out k hn
          have hpr := Hpar.out k hn
          have Hcnt := Lib.hid hcnt; have Hsl := Lib.hid hsl; have Hpr := Lib.hid hpr
          clear hn hcnt hsl hpr
          go_wp2_with fail
          go_loopw [5, 6] (fun a i wr => ∃ j : Nat, j ≤ T.length ∧ i = .int .i64 j ∧ (∃ c : Nat, a = .int .i64 c ∧ c ≤ j ∧ Hid (c = (T.take j).countP (fun t => belowB f t k))) ∧ Below w7.heap.size w7 wr) (fun _ i _ => T.length - (intOf i).toNat)
          case atStart => exact ⟨0, Nat.zero_le _, rfl, ⟨0, rfl, Nat.le_refl _, Lib.hid rfl⟩, Hb.out⟩
          case round =>
            obtain ⟨j, hj, rfl, ⟨c, rfl, hcj, hc⟩, hb2⟩ := hrel
            by_cases hjl : j < T.length
            · have e1 := Hcell.out wr hb2 j hjl
              have hbc := Hbl.out wr (Hc7.out wr hb2) T[j] k
              have htk : (T.take (j + 1)).countP (fun t => belowB f t k) = (T.take j).countP (fun t => belowB f t k) + if belowB f T[j] k = true then 1 else 0 := by
                rw [List.take_succ_eq_append_getElem hjl, List.countP_append, List.countP_singleton]
              have Hb2 := Lib.hid hb2
              generalize T[j] = t at *
              cases hq : belowB f t k with
              | false =>
                rw [hq] at hbc
                rw [hq, if_neg (by decide)] at htk
                have Hbc := Lib.hid hbc; have Htk := Lib.hid htk
                clear hbc htk hq hb2
                go_wp2_with (go_at_call 34; (with_reducible refine (Hbc.out).mono ?_); rintro e w9 ⟨rfl, hb9⟩; have Hb9 := Lib.hid (bthen Hb2.out hb9); clear hb9)
                go_roundw
                case rel => exact ⟨j + 1, by omega, by go_num, ⟨c, rfl, by omega, Lib.hid (by rw [Htk.out, ← hc.out]; rfl)⟩, Hb9.out⟩
                case measure => simp [intOf]; omega
              | true =>
                rw [hq] at hbc
                rw [hq, if_pos rfl] at htk
                have Hbc := Lib.hid hbc; have Htk := Lib.hid htk
                clear hbc htk hq hb2
                go_wp2_with (go_at_call 34; (with_reducible refine (Hbc.out).mono ?_); rintro e w9 ⟨rfl, hb9⟩; have Hb9 := Lib.hid (bthen Hb2.out hb9); clear hb9)
                go_roundw
                case rel => exact ⟨j + 1, by omega, by go_num, ⟨c + 1, by go_num, by omega, Lib.hid (by rw [Htk.out, ← hc.out])⟩, Hb9.out⟩
                case measure => simp [intOf]; omega
            · obtain rfl : j = T.length := by omega
              rw [List.take_length, Hcnt.out] at hc
              obtain rfl : c = 1 := hc.out
              have hb3 := Hc7.out wr hb2
              have hq1 := Hbl.out wr hb3 k k
              rw [Hsl.out] at hq1
              obtain ⟨b, o, _, _, _, _, hA0, _, _, _, _, _, g4, _⟩ := node_at (Hrd.out wr hb3) hlt
              subst hA0
              rw [← at_nat hlt] at g4
              have hq2 := fun w' hb' => Hbl.out w' hb' k (at_ f k).parent
              have hq3 := fun w' hb' => Hbl.out w' hb' (at_ f k).parent k
              have Hb2 := Lib.hid hb2; have Hq1 := Lib.hid hq1
              by_cases hp0 : 0 ≤ (at_ f k).parent
              · obtain ⟨p1, p2⟩ := Hpr.out hp0
                rw [p1] at hq2
                rw [p2] at hq3
                have Hq2 := Lib.hid hq2; have Hq3 := Lib.hid hq3
                have hkeep : ∀ w', Below w7.heap.size w7 w' → w'.cell? ⟨b, o + k * 6 + 4, none⟩ = some (.int .i64 (at_ f k).parent) := fun w' hb' => by
                  obtain ⟨b2, o2, _, _, _, _, hA0, _, _, _, _, _, g4', _⟩ := node_at (Hrd.out w' (Hc7.out w' hb')) hlt
                  rw [at_nat hlt]; injection hA0 with hA0; injection hA0 with e1 e2 _; subst e1; subst e2; exact g4'
                have Hkeep := Lib.hid hkeep
                generalize (at_ f k).parent = pr at *
                clear hq1 hq2 hq3 hb2 hb3 p1 p2 hcj hc hkeep
                go_wp2_with (first
                  | (go_at_call 34; (with_reducible refine (Hq1.out).mono ?_); rintro e w9 ⟨rfl, hb9⟩; have g5 := Hkeep.out _ (bthen Hb2.out hb9); have Hb9 := Lib.hid (bthen Hb2.out hb9); clear hb9 Hq1)
                  | (go_at_call 34; (with_reducible refine (Hq2.out _ (Hc7.out _ Hb9.out)).mono ?_); rintro e w10 ⟨rfl, hb10⟩; have g6 := Hkeep.out _ (bthen Hb9.out hb10); have Hb10 := Lib.hid (bthen Hb9.out hb10); clear hb10 Hq2)
                  | (go_at_call 34; (with_reducible refine (Hq3.out _ (Hc7.out _ Hb10.out)).mono ?_); rintro e w11 ⟨rfl, hb11⟩; have Hb11 := Lib.hid (bthen Hb10.out hb11); clear hb11 Hq3))
                go_roundw
                case rel => exact ⟨k + 1, by omega, by go_num, Hb11.out⟩
                case measure => simp [intOf]; omega
              · have hp1 : (at_ f k).parent < 0 := by omega
                generalize (at_ f k).parent = pr at *
                clear hq1 hq2 hq3 hb2 hb3 hcj hc hp0
                go_wp2_with (go_at_call 34; (with_reducible refine (Hq1.out).mono ?_); rintro e w9 ⟨rfl, hb9⟩; have g5 := cell_grow hb9 g4; have Hb9 := Lib.hid (bthen Hb2.out hb9); clear hb9 Hq1)
                go_roundw
                case rel => exact ⟨k + 1, by omega, by go_num, Hb9.out⟩
                case measure => simp [intOf]; omega
        · have e1 := Hcell.out wo Hb.out 0 htl0
          have h00 : T[0] = 0 := by
            have h1 := HTL.out
            rw [← HT.out] at h1
            simp [h1]
          rw [h00] at e1
          obtain rfl : k = f.length := by omega
          clear hlt h00
          go_wp2_with fail
          go_ret
          exact ⟨rfl, Hc7.out _ Hb.out⟩
end Go.Proofs.Ytbbompmpecblgaa.LTops
