/- Equality of forests. -/
import Derived.Test.YtbbompmpecblgaaFSameF
namespace Go.Proofs.Ytbbompmpecblgaa.FSameR
open Go Go.RowKit Go.Proofs.Ytbbompmpecblgaa.Seq Go.Proofs.Ytbbompmpecblgaa.WS Go.Proofs.Ytbbompmpecblgaa.FS Go.Proofs.Ytbbompmpecblgaa.WordIt Go.Proofs.Ytbbompmpecblgaa.Mem Go.Proofs.Ytbbompmpecblgaa.Rd Go.Proofs.Ytbbompmpecblgaa.Word Go.Proofs.Ytbbompmpecblgaa.WordHas Go.Proofs.Ytbbompmpecblgaa.Shapes Go.Proofs.Ytbbompmpecblgaa.FFam Go.Proofs.Ytbbompmpecblgaa.FMay Go.Proofs.Ytbbompmpecblgaa.FSame Go.Proofs.Ytbbompmpecblgaa.FSameN
set_option linter.unusedVariables false
set_option linter.unusedSimpArgs false

set_option maxRecDepth 100000 in
set_option maxHeartbeats 4000000 in
theorem RefSame_calls (w : World) (v1 v2 : Value) (a b : Fo) (h1 : RdF w.heap.size w v1 a) (h2 : RdF w.heap.size w v2 b) :
    Calls Try.prog 30 #[v1, v2] w fun e w' => e = .returned (.bool (decide (a = b))) ∧ Below w.heap.size w w' := by
  have HR1 := Lib.hid (fun w' hb => h1.below nodeE_keeps (w' := w') hb (Nat.le_refl _))
  have HR2 := Lib.hid (fun w' hb => h2.below nodeE_keeps (w' := w') hb (Nat.le_refl _))
  obtain ⟨A1, c1, rfl, l1, m1, _⟩ := h1.form
  obtain ⟨A2, c2, rfl, l2, m2, _⟩ := h2.form
  simp only [maxLen] at m1 m2
  clear h1 h2
  by_cases hl : a.length = b.length
  case neg =>
    have hr := list_ne_len hl
    have e1 : ((a.length : Int) == (b.length : Int)) = false := by rw [beq_eq_false_iff_ne]; omega
    have e2 : ((a.length : Int) != (b.length : Int)) = true := by rw [bne_iff_ne]; omega
    have Hr := Lib.hid hr; clear hr hl
    go_enter Try.func30, Try.ntmps30
    go_wp2_with fail
    go_ret
    exact ⟨ret_bool Hr.out.symm, Below.refl _ _⟩
  case pos =>
    have e1 : ((a.length : Int) == (b.length : Int)) = true := by rw [beq_iff_eq]; omega
    have e2 : ((a.length : Int) != (b.length : Int)) = false := by rw [hl]; simp
    have hne := fun k ha hb h => list_ne_at (a := a) (b := b) (k := k) ha hb h
    have heq := list_eq_at (a := a) (b := b) hl
    have Hne := Lib.hid hne; have Heq := Lib.hid heq
    clear hne heq
    go_enter Try.func30, Try.ntmps30
    have Hl := Lib.hid hl; clear hl
    go_wp2_with fail
    clear e1 e2
    go_loopw [5] (fun i wr => ∃ k : Nat, k ≤ a.length ∧ i = .int .i64 k ∧ Below w.heap.size w wr ∧ ∀ j (ha : j < a.length) (hb : j < b.length), j < k → a[j] = b[j]) (fun i _ => a.length - (intOf i).toNat)
    case atStart => exact ⟨0, Nat.zero_le _, rfl, Below.refl _ _, fun j _ _ h => by omega⟩
    case round =>
      obtain ⟨k, hk, rfl, hb, hall⟩ := hrel
      by_cases hlt : k < a.length
      · have hltb : k < b.length := by rw [← Hl.out]; exact hlt
        obtain ⟨b1, o1, Aa, ca, Ak, ck, he1, hbl1, g0, g1, g2, g3, g4, g5, ra, rk, la, lca, lk, lck, _⟩ := node_at (HR1.out _ hb) hlt
        obtain ⟨b2, o2, Ba, da, Bk, dk, he2, hbl2, f0, f1, f2, f3, f4, f5, sa, sk, _⟩ := node_at (HR2.out _ hb) hltb
        subst he1
        subst he2
        have hnx : a[k] = b[k] → ∀ j (ha : j < a.length) (hb : j < b.length), j < k + 1 → a[j] = b[j] := fun h j ha hb hj => by
          by_cases e : j = k
          · subst e; exact h
          · exact hall j ha hb (by omega)
        have hno := Hne.out k hlt hltb
        have hsz := hb.size
        generalize hx : a[k] = x at *
        generalize hy : b[k] = y at *
        obtain ⟨k1, n1, t1, a1, p1, cc1⟩ := x
        obtain ⟨k2, n2, t2, a2, p2, cc2⟩ := y
        simp only at *
        have hs : ∀ w1, Below wr.heap.size wr w1 → Calls Try.prog 64 #[.agg #[.int .i64 k1, .string n1, .string t1, .slice Aa a1.length ca, .int .i64 p1, .slice Ak cc1.length ck], .agg #[.int .i64 k2, .string n2, .string t2, .slice Ba a2.length da, .int .i64 p2, .slice Bk cc2.length dk]] w1 fun e w' =>
            e = .returned (.bool (decide ((⟨k1, n1, t1, a1, p1, cc1⟩ : Nd) = ⟨k2, n2, t2, a2, p2, cc2⟩))) ∧ Below w1.heap.size w1 w' := fun w1 hw1 =>
          refNode_calls w1 k1 k2 p1 p2 n1 n2 t1 t2 a1 a2 cc1 cc2 _ _ _ _ (((ra.mono attrE_keeps hsz).keep attrE_keeps hw1 (Nat.le_refl _)).mono attrE_keeps hw1.size) (((sa.mono attrE_keeps hsz).keep attrE_keeps hw1 (Nat.le_refl _)).mono attrE_keeps hw1.size)
            (((rk.mono (intE_keeps _) hsz).keep (intE_keeps _) hw1 (Nat.le_refl _)).mono (intE_keeps _) hw1.size) (((sk.mono (intE_keeps _) hsz).keep (intE_keeps _) hw1 (Nat.le_refl _)).mono (intE_keeps _) hw1.size)
        by_cases hxy : (⟨k1, n1, t1, a1, p1, cc1⟩ : Nd) = ⟨k2, n2, t2, a2, p2, cc2⟩
        · rw [decide_eq_true hxy] at hs
          have Hs := Lib.hid hs; have Hb := Lib.hid hb; have Hnx := Lib.hid (hnx hxy)
          clear hs hb hall hnx hno hxy hx hy ra rk sa sk
          go_wp2_with fail
          go_region_with (go_at_call 64; (first | refine (Hs.out _ (Below.refl _ _)).mono ?_ | refine (Hs.out _ (Below.refl _ _).drew).mono ?_); rintro e w5 ⟨rfl, hb5⟩; have Hb5 := Lib.hid hb5; clear hb5)
          all_goals go_wp2_with fail
          all_goals
            go_roundw
            case rel => exact ⟨k + 1, by omega, by go_num, by (first | exact bthen Hb.out Hb5.out | exact bthen Hb.out.drew Hb5.out | exact (bthen Hb.out Hb5.out).drew | exact (bthen Hb.out.drew Hb5.out).drew), Hnx.out⟩
            case measure => simp [intOf]; omega
        · rw [decide_eq_false hxy] at hs
          have Hs := Lib.hid hs; have Hb := Lib.hid hb; have Hno := Lib.hid (hno hxy)
          clear hs hb hall hnx hno hxy hx hy ra rk sa sk
          go_wp2_with fail
          go_region_with (go_at_call 64; (first | refine (Hs.out _ (Below.refl _ _)).mono ?_ | refine (Hs.out _ (Below.refl _ _).drew).mono ?_); rintro e w5 ⟨rfl, hb5⟩; have Hb5 := Lib.hid hb5; clear hb5)
          all_goals go_wp2_with fail
          all_goals
            go_ret
            exact ⟨ret_bool Hno.out.symm, by (first | exact bthen Hb.out Hb5.out | exact bthen Hb.out.drew Hb5.out | exact (bthen Hb.out Hb5.out).drew | exact (bthen Hb.out.drew Hb5.out).drew)⟩
      · have hr := Heq.out (fun j ha hb => hall j ha hb (by omega))
        have Hr := Lib.hid hr; have Hb := Lib.hid hb
        clear hb hall hr
        obtain rfl : k = a.length := by omega
        go_wp2_with fail
        go_ret
        exact ⟨ret_bool Hr.out.symm, Hb.out⟩
end Go.Proofs.Ytbbompmpecblgaa.FSameR
