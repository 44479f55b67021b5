/- The law ApplyParts answers true at every input, and each argument reads afterwards as it read before; no condition. -/
import Derived.Laws.OwnMore
import Derived.Maps.AppendAt
import Derived.Test.YthdenkkllpkplaaGreatRows
import Derived.WalkKit
import Derived.ProofKit
import Derived.OpenShut
import Derived.ShutString
import Derived.ChangeOld
import Derived.Below
import Derived.SizedLaws
import Derived.Test.YthdenkkllpkplaaGreatC15
import Derived.Test.YthdenkkllpkplaaGreatC16
section
/- ApplyParts: two lists, one behind the other, are one, up to the first error. -/
namespace Go.Proofs.YthdenkkllpkplaaGreat.LParts
open Go Go.RowKit Go.Proofs.YthdenkkllpkplaaGreat.Seq Go.Proofs.YthdenkkllpkplaaGreat.WS Go.Proofs.YthdenkkllpkplaaGreat.FS Go.Proofs.YthdenkkllpkplaaGreat.Mem Go.Proofs.YthdenkkllpkplaaGreat.Rd Go.Proofs.YthdenkkllpkplaaGreat.Shapes Go.Proofs.YthdenkkllpkplaaGreat.Word Go.Proofs.YthdenkkllpkplaaGreat.FFam Go.Proofs.YthdenkkllpkplaaGreat.Grown Go.Proofs.YthdenkkllpkplaaGreat.Ap
set_option linter.unusedVariables false
set_option linter.unusedSimpArgs false
theorem allF_ok {f : Fo} {l : List Opn} (h : allE f l = 0) : allF f l = allG f l := by unfold allF; rw [if_pos h]
theorem allF_no {f : Fo} {l : List Opn} (h : allE f l ≠ 0) : allF f l = f := by unfold allF; rw [if_neg h]
/-! Operations, laid end to end. -/
def opsC (l : List Opn) : List Value := l.flatMap opL
theorem opsC_append (a b : List Opn) : opsC (a ++ b) = opsC a ++ opsC b := by unfold opsC; rw [List.flatMap_append]
theorem opsC_length : ∀ l : List Opn, (opsC l).length = l.length * 6
  | [] => rfl
  | o :: l => by have := opsC_length l; unfold opsC at this ⊢; rw [List.flatMap_cons, List.length_append, this]; simp [opL]; omega
theorem opsC_at : ∀ {l : List Opn} {i : Nat} (h : i < l.length), ((opsC l).drop (i * 6)).take 6 = opL l[i]
  | o :: l, 0, h => rfl
  | o :: l, i + 1, h => by
    have := opsC_at (l := l) (i := i) (by simpa using h)
    unfold opsC at this ⊢
    rw [List.flatMap_cons, show (i + 1) * 6 = i * 6 + 1 + 1 + 1 + 1 + 1 + 1 by omega]
    exact this
theorem opsC_one (l : List Opn) : ∀ u ∈ opsC l, u.oneCell' = true := by
  intro u hu
  unfold opsC at hu
  obtain ⟨o, _, ho⟩ := List.mem_flatMap.1 hu
  simp only [opL, List.mem_cons, List.not_mem_nil, or_false] at ho
  rcases ho with rfl | rfl | rfl | rfl | rfl | rfl <;> rfl
theorem ops_cells {B : Nat} {w : World} {a : Addr} {c : Nat} {l : List Opn} (h : RdO B w (.slice (some a) l.length c) l) : ∀ j u, (opsC l)[j]? = some u → w.cell? (a.add j) = some u := by
  intro j u hj
  have hlt := (List.getElem?_eq_some_iff.1 hj).1
  rw [opsC_length] at hlt
  have hi : j / 6 < l.length := by omega
  obtain ⟨b, o, cs, e, _, _, hc, hcs, _⟩ := h.at_ hi
  injection e with e
  subst e
  have ha := opsC_at hi
  have hj2 : (((opsC l).drop (j / 6 * 6)).take 6)[j % 6]? = some u := by
    rw [List.getElem?_take, if_pos (Nat.mod_lt _ (by decide)), List.getElem?_drop, show j / 6 * 6 + j % 6 = j by omega]
    exact hj
  rw [ha] at hj2
  have := hc (j % 6) u (by rw [hcs]; exact hj2)
  rw [Addr.add_lit]
  rwa [show o + j / 6 * 6 + j % 6 = o + j by omega] at this
theorem rd_ok {B : Nat} {w : World} {v : Value} {l : List Opn} (h : RdO B w v l) : ∀ o ∈ l, OkO o := by
  intro o ho
  obtain ⟨i, hi, rfl⟩ := List.mem_iff_getElem.1 ho
  obtain ⟨A, c, rfl, _, _, h'⟩ := h.form
  obtain ⟨b, o, cs, _, _, _, _, _, hk⟩ := h'.at_ hi
  exact hk
theorem own_ops {w : World} {base : Nat} {v : Value} {l : List Opn} (h : w.ownsRow base 24 6 v l.length (opsC l)) (hk : ∀ o ∈ l, OkO o) : RdO w.heap.size w v l :=
  RdL.of_own h rfl (fun g hg => (h.lt g hg).2) (fun i hi => ⟨opsC_at hi, hk _ (List.getElem_mem _)⟩)
theorem run_append_none {P : Program} {w : World} (base : Nat) (t ty e : TypeId) (i : TypeInfo) (size c : Nat) (ht : P.underlying t = some (.slice e)) (hi : P.info? e = some i)
    (v : Value) (n : Nat) (xs : List Value) (hown : w.ownsRow base e size v n xs) : (Builtin.append_ #[t, t] ty #[v, .slice none 0 c]).run P w = .ok v w := by
  rcases hown.2 with ⟨rfl, rfl⟩ | ⟨g, cap, cur, rfl, _, _, hnc, _⟩
  · simp [Builtin.append_, run_underlying ht, sizeOf, typeInfo, hi, Builtin.lenOf, Builtin.firstCells]
  · simp [Builtin.append_, run_underlying ht, sizeOf, typeInfo, hi, Builtin.lenOf, Builtin.firstCells, hnc, storeCells]
theorem info_op : (Tryz.prog.info? 24).map (fun i => (i.zero, i.size, i.bytes)) = some (some (.agg #[.int .i64 0, .int .i64 0, .int .i64 0, .int .i64 0, .string ⟨#[]⟩, .string ⟨#[]⟩]), 6, 64) := by kernel_rfl
theorem made_ops (w : World) : (w.alloc (.cells #[] 24)).ownsRow w.heap.size 24 6 (.slice (some ⟨w.heap.size, 0, none⟩) 0 0) 0 [] := World.ownsRow_made w #[] 0 (Nat.le_refl _) (by simp [maxLen]) (by simp)
set_option maxRecDepth 100000 in
/-- Operations appended onto a row of the call's own. -/
theorem pl_ops {ops : Array Oper} {rest : List Oper} {o : Oper} {a : Act} {Q : Exit → Act → World → Prop} (W : World) (hgd : o.guard = none) (s x : Operand)
    (ho : o.op = .call { callee := .builtin .append, args := #[s, x], argTypes := #[22, 22] }) (B : Nat) (v vx : Value) (n : Nat) (xs : List Value) (l : List Opn) (hs : a.eval s = v) (hown : W.ownsRow B 24 6 v n xs) (hx : a.eval x = vx)
    (hr : RdO W.heap.size W vx l) (hn : n + l.length ≤ 1000) (hB : B ≤ W.heap.size)
    (h : ∀ v' w1, w1.ownsRow B 24 6 v' (n + l.length) (xs ++ opsC l) → W.grownBy w1 v.ownBlock → wpList Tryz.prog ops Q rest (a.put o.dst v') w1) : wpList Tryz.prog ops Q (o :: rest) a W := by
  obtain ⟨i0, hi, hz0, hz1, hz2⟩ := info_parts info_op
  obtain ⟨A, c, rfl, hc, hm, hr'⟩ := hr.form
  cases A with
  | some ad =>
    refine wpList_append_own_at W hgd s x 22 ho B 24 i0 _ 6 64 Tryz.underlying22 hi hz0 hz1 hz2 rfl (by decide) v n xs hs hown ad l.length c (opsC l) hx (opsC_length l) (ops_cells hr') (opsC_one l) (by simp only [maxLen]; omega) (by omega) hB ?_
    intro v' w' ho' hg' _ _
    exact h v' w' ho' hg'
  | none =>
    have hl : l.length = 0 := by
      obtain ⟨A', c', e, _, _, h0⟩ := hr'
      injection e with e
      subst e
      rcases Nat.eq_zero_or_pos l.length with h1 | h1
      · exact h1
      · obtain ⟨b, o, e, _⟩ := h0 h1
        cases e
    have hl' : l = [] := List.eq_nil_of_length_eq_zero hl
    subst hl'
    refine wpList_plain hgd fun K hK => ?_
    have hrun := run_append_none (P := Tryz.prog) (w := W) B 22 o.type 24 i0 6 c Tryz.underlying22 hi v n xs hown
    unfold Oper.wp
    simp only [List.length_nil] at hx
    simp [execOp, ho, resolve, invoke, builtin, hs, hx, hrun, Result.andThen]
    refine hK _ _ (h v W ?_ ?_)
    · show W.ownsRow B 24 6 v (n + 0) (xs ++ [])
      rw [List.append_nil]
      exact hown
    · exact ⟨rfl, rfl, rfl, Nat.le_refl _, fun _ _ _ => rfl⟩
set_option maxRecDepth 100000 in
set_option maxHeartbeats 8000000 in
theorem law_calls (w : World) (a : List Opn) (v : Value) (h : RdO w.heap.size w v a) (b : List Opn) (u : Value) (g : RdO w.heap.size w u b) :
    Calls Tryz.prog 6 #[v, u] w fun e w' => e = .returned (.bool true) ∧ Below w.heap.size w w' := by
  have hba := bounded_calls w v a h
  have hbb := bounded_calls w u b g
  have hra := fun w' (hb : Below w.heap.size w w') => (h.below opE_keeps (w' := w') hb (Nat.le_refl _)).mono opE_keeps hb.size
  have hrb := fun w' (hb : Below w.heap.size w w') => (g.below opE_keeps (w' := w') hb (Nat.le_refl _)).mono opE_keeps hb.size
  have hoa := rd_ok h
  have hob := rd_ok g
  obtain ⟨A0, c0, rfl, hl0, hc0, _⟩ := h.form
  obtain ⟨A1, c1, rfl, hl1, hc1, _⟩ := g.form
  simp only [maxLen] at hc0 hc1
  have Hra := Lib.hid hra; have Hrb := Lib.hid hrb
  clear h g hra hrb
  cases hA : bndO a with
  | false =>
    rw [hA] at hba
    have Hba := Lib.hid hba
    clear hba hbb hA hoa hob
    go_enter Tryz.func6, Tryz.ntmps6
    go_wp2_with (first | (go_at_call 18; (with_reducible refine (Hba.out).mono ?_); rintro e w5 ⟨rfl, rfl⟩; clear Hba) | (go_at_call 19; (with_reducible refine (shown_calls _).mono ?_); rintro e w6 ⟨rfl, hb6⟩; have Hb6 := Lib.hid hb6; clear hb6))
    go_ret
    exact ⟨rfl, Hb6.out⟩
  | true =>
    cases hB : bndO b with
    | false =>
      rw [hA] at hba
      rw [hB] at hbb
      have Hba := Lib.hid hba; have Hbb := Lib.hid hbb
      clear hba hbb hA hB hoa hob
      go_enter Tryz.func6, Tryz.ntmps6
      go_wp2_with (first | (go_at_call 18; (with_reducible refine (Hba.out).mono ?_); rintro e w5 ⟨rfl, rfl⟩; clear Hba) | (go_at_call 18; (with_reducible refine (Hbb.out).mono ?_); rintro e w5 ⟨rfl, rfl⟩; clear Hbb) | (go_at_call 19; (with_reducible refine (shown_calls _).mono ?_); rintro e w6 ⟨rfl, hb6⟩; have Hb6 := Lib.hid hb6; clear hb6))
      go_ret
      exact ⟨rfl, Hb6.out⟩
    | true =>
      have hla : a.length ≤ 150 := by unfold bndO at hA; rw [Bool.and_eq_true, decide_eq_true_eq] at hA; exact hA.2
      have hlb : b.length ≤ 150 := by unfold bndO at hB; rw [Bool.and_eq_true, decide_eq_true_eq] at hB; exact hB.2
      rw [hA] at hba
      rw [hB] at hbb
      obtain ⟨x1, x2, x3⟩ := all_append a b newFo
      have hmA := allF_may new_may a
      have hmK := allF_may new_may (a ++ b)
      have hG0 : allE newFo a = 0 → allF newFo a = allG newFo a := fun e => allF_ok e
      have hK0 : allE newFo (a ++ b) = 0 → allF newFo (a ++ b) = allG newFo (a ++ b) := fun e => allF_ok e
      have hK1 : allE newFo (a ++ b) ≠ 0 → allF newFo (a ++ b) = newFo := fun e => allF_no e
      have hn1 := allN_full b (allF newFo a)
      have hG1 : allE (allF newFo a) b = 0 → allF (allF newFo a) b = allG (allF newFo a) b := fun e => allF_ok e
      have hall1 := fun w' v (hr : RdF w'.heap.size w' v newFo) (hb : Below w.heap.size w w') => All_calls w' v _ newFo a hr new_may (Hra.out w' hb)
      have hall2 := fun w' v (hr : RdF w'.heap.size w' v (allF newFo a)) (hb : Below w.heap.size w w') => All_calls w' v _ (allF newFo a) b hr hmA (Hrb.out w' hb)
      have hall3 := fun w' v vl (hr : RdF w'.heap.size w' v newFo) (hl : RdO w'.heap.size w' vl (a ++ b)) => All_calls w' v vl newFo (a ++ b) hr new_may hl
      unfold AllPost at hall1 hall2 hall3
      have hlK : 1 ≤ (allF newFo (a ++ b)).length ∧ (allF newFo (a ++ b)).length ≤ 60 := may_len hmK
      have hsame := fun w' v1 v2 (h1 : RdF w'.heap.size w' v1 (allF newFo (a ++ b))) (h2 : RdF w'.heap.size w' v2 (allF (allF newFo a) b)) => FSameF.Same_calls w' v1 v2 _ _ h1 h2
      have hend : (allE newFo a ≠ 0 ∧ allE newFo (a ++ b) = allE newFo a ∧ allN newFo (a ++ b) = allN newFo a ∧ (allF newFo (a ++ b)).length = 1) ∨
          (allE newFo a = 0 ∧ allE (allF newFo a) b ≠ 0 ∧ allE newFo (a ++ b) = allE (allF newFo a) b ∧ allN newFo (a ++ b) = a.length + allN (allF newFo a) b ∧ (allF newFo (a ++ b)).length = 1) ∨
          (allE newFo a = 0 ∧ allE (allF newFo a) b = 0 ∧ allE newFo (a ++ b) = 0 ∧ allN newFo (a ++ b) = a.length + b.length ∧ allF newFo (a ++ b) = allF (allF newFo a) b) := by
        by_cases e1 : allE newFo a = 0
        · rw [if_pos e1, ← hG0 e1] at x1 x2
          by_cases e2 : allE (allF newFo a) b = 0
          · rw [e2] at x1
            refine .inr (.inr ⟨e1, e2, x1, by rw [x2, hn1 e2], ?_⟩)
            rw [hK0 x1, hG1 e2, x3 e1, hG0 e1]
          · exact .inr (.inl ⟨e1, e2, x1, x2, by rw [hK1 (by rw [x1]; exact e2)]; rfl⟩)
        · rw [if_neg e1] at x1 x2
          exact .inl ⟨e1, x1, x2, by rw [hK1 (by rw [x1]; exact e1)]; rfl⟩
      have hnA := allN_le a newFo
      have hnB := allN_le b (allF newFo a)
      clear x1 x2 x3 hmA hmK hG0 hK0 hK1 hn1 hG1 hA hB
      generalize allE newFo a = EA at *
      generalize allN newFo a = NA at *
      generalize allF newFo a = FA at *
      generalize allE FA b = EB at *
      generalize allN FA b = NB at *
      generalize allF FA b = FB at *
      generalize allE newFo (a ++ b) = EK at *
      generalize allN newFo (a ++ b) = NK at *
      generalize allF newFo (a ++ b) = FK at *
      have Hba := Lib.hid hba; have Hbb := Lib.hid hbb; have Hall1 := Lib.hid hall1; have Hall2 := Lib.hid hall2; have Hall3 := Lib.hid hall3; have Hsame := Lib.hid hsame; have Hend := Lib.hid hend; have Hoa := Lib.hid hoa; have Hob := Lib.hid hob
      clear hba hbb hall1 hall2 hall3 hsame hend hoa hob
      go_enter Tryz.func6, Tryz.ntmps6
      go_upto_region 4 with (first
        | (go_at_call 18; (with_reducible refine (Hba.out).mono ?_); rintro e w5 ⟨rfl, rfl⟩; clear Hba) | (go_at_call 18; (with_reducible refine (Hbb.out).mono ?_); rintro e w5 ⟨rfl, rfl⟩; clear Hbb) | (go_at_call 19; (with_reducible refine (shown_calls _).mono ?_); rintro e w6 ⟨rfl, hb6⟩; have Hb6 := Lib.hid hb6; clear hb6)
        | (go_at_call 20; (with_reducible refine (FNew.New_calls _).mono ?_); rintro e w7 ⟨v7, rfl, hr7, hb7⟩; have Hr7 := Lib.hid hr7; have Hb7 := Lib.hid (bthen Hb6.out hb7); clear hr7 hb7)
        | (go_at_call 29; (with_reducible refine (Hall1.out _ _ Hr7.out Hb7.out).mono ?_); rintro e w8 ⟨v8, rfl, hr8, hb8⟩; have Hr8 := Lib.hid hr8; have Hb8 := Lib.hid (bthen Hb7.out hb8); clear hr8 hb8))
      clear Hall1 Hr7
      go_upto_region 5 with (go_at_call 29; (with_reducible refine (Hall2.out _ _ Hr8.out Hb8.out).mono ?_); rintro e w9 ⟨v9, rfl, hr9, hb9⟩; have Hr9 := Lib.hid hr9; have Hb9 := Lib.hid (bthen Hb8.out hb9); clear hr9 hb9)
      clear Hall2 Hr8
      go_upto_region 6 with (first
        | (go_at_call 20; (with_reducible refine (FNew.New_calls _).mono ?_); rintro e w10 ⟨v10, rfl, hr10, hb10⟩; have Hr10 := Lib.hid hr10; have HB10 := Lib.hid hb10; have Hb10 := Lib.hid (bthen Hb9.out hb10); clear hr10 hb10)
        | (at_builtin; go_loud (refine pl_ops (w10.alloc (.cells #[] 24)) rfl _ _ rfl w10.heap.size _ _ 0 [] a rfl (made_ops w10) rfl (Hra.out _ (Hb10.out.alloc Hb10.out.size _)) (by omega) (by simp) ?_; intro v11 w11 hown11 hgr11; have Hb11 := Lib.hid (FTops.grown_below (Hb10.out.alloc Hb10.out.size _) hgr11 (made_ops w10) Hb10.out.size); have HB11 := Lib.hid (FTops.grown_below ((Below.refl _ w10).alloc (Nat.le_refl _) _) hgr11 (made_ops w10) (Nat.le_refl _)); have Hown11 := Lib.hid hown11; clear hown11 hgr11))
        | (at_builtin; go_loud (refine pl_ops w11 rfl _ _ rfl w10.heap.size _ _ (0 + a.length) ([] ++ opsC a) b rfl Hown11.out rfl (Hrb.out _ Hb11.out) (by omega) HB11.out.size ?_; intro v12 w12 hown12 hgr12; have HB12 := Lib.hid (FTops.grown_below HB11.out hgr12 Hown11.out (Nat.le_refl _)); have Hb12 := Lib.hid (bthen Hb10.out HB12.out); have Hl12 := Lib.hid (own_ops (l := a ++ b) (by simpa [opsC_append] using hown12) (fun o ho => (List.mem_append.1 ho).elim (Hoa.out o) (Hob.out o))); have Hr12 := Lib.hid ((Hr10.out.below nodeE_keeps HB12.out (Nat.le_refl _)).mono nodeE_keeps HB12.out.size); clear hown12 hgr12))
        | (go_at_call 29; (with_reducible refine (Hall3.out _ _ _ Hr12.out Hl12.out).mono ?_); rintro e w13 ⟨v13, rfl, hr13, hb13⟩; have Hr13 := Lib.hid hr13; have HB13 := Lib.hid hb13; have Hb13 := Lib.hid (bthen Hb12.out hb13); clear hr13 hb13))
      have hr9 := (Hr9.out.below nodeE_keeps (bthen HB10.out (bthen HB12.out HB13.out)) (Nat.le_refl _)).mono nodeE_keeps (bthen HB10.out (bthen HB12.out HB13.out)).size
      obtain ⟨A13, c13, rfl, hl13, hc13, hr13⟩ := Hr13.out.form
      simp only [maxLen] at hc13
      have hsm := Hsame.out w13 _ v9 hr13 hr9
      have hlb2 : (NB : Int) ≤ 150 := by omega
      clear Hr13 Hr12 Hl12 Hr10 Hr9 hr9 hr13 Hsame Hall3 Hown11
      rcases Hend.out with ⟨e1, e2, e3, e4⟩ | ⟨e1, e2, e3, e4, e5⟩ | ⟨e1, e2, e3, e4, e5⟩
      · subst e2 e3
        have q1 : (EK != 0) = true := by rw [bne_iff_ne]; exact e1
        have q2 : (EK == 0) = false := by rw [beq_eq_false_iff_ne]; exact e1
        have q3 : ((FK.length : Int) == 1) = true := by rw [beq_iff_eq, e4]; rfl
        clear hsm Hend e1 e4
        go_wp2_with fail
        go_ret
        exact ⟨rfl, Hb13.out⟩
      · subst e1 e3 e4
        have q1 : (EK != 0) = true := by rw [bne_iff_ne]; exact e2
        have q2 : (EK == 0) = false := by rw [beq_eq_false_iff_ne]; exact e2
        have q3 : ((FK.length : Int) == 1) = true := by rw [beq_iff_eq, e5]; rfl
        have q4 : IntKind.i64.wrap ((a.length : Int) + (NB : Int)) = ((a.length + NB : Nat) : Int) := by rw [IntKind.wrap_i64]; omega
        clear hsm Hend e2 e5
        go_wp2_with fail
        go_ret
        exact ⟨rfl, Hb13.out⟩
      · subst e1 e2 e3 e4 e5
        rw [decide_eq_true rfl] at hsm
        have Hsame := Lib.hid hsm
        have q4 : IntKind.i64.wrap ((a.length : Int) + (b.length : Int)) = ((a.length + b.length : Nat) : Int) := by rw [IntKind.wrap_i64]; omega
        clear hsm Hend
        go_wp2_with (go_at_call 28; (with_reducible refine (Hsame.out).mono ?_); rintro e w14 ⟨rfl, hb14⟩; have Hb14 := Lib.hid (bthen Hb13.out hb14); clear hb14)
        go_ret
        exact ⟨rfl, Hb14.out⟩
end Go.Proofs.YthdenkkllpkplaaGreat.LParts
end
section
/- The law ApplyParts answers true at every input, and each argument reads afterwards as it read before; no condition. -/
namespace Go.Proofs.YthdenkkllpkplaaGreat.applyParts
open Go.ChangeShapes Go.WideShapes Go.ChangeAt Go.RowKit
open Go.ChangeMaps (open_string shut_string)
set_option linter.unusedVariables false
theorem own : ownKnob Tryz.prog.godebug = none := by kernel_rfl
theorem laidOut : laidOutB Tryz.prog = true := by kernel_rfl
set_option maxRecDepth 100000 in
theorem lifted (os : Os) (started : os.Started) (H : Type) (enc : TypeId × Value → H) :
    ReturnsInHanded {} Tryz.checked os 6 .any (Rows.applyPartsSpec.pre6 enc Tryz.prog Tryz.f6 Rows.applyPartsRow.domain false) (Rows.applyPartsSpec.post enc Tryz.prog Tryz.f6 false true false false) := by
  refine returnsInHanded_of_change_sized (C := Tryz.checked) own started (by kernel_rfl) Tryz.func6
    (ChangeSpec.witness6 (enc := enc) (C := Tryz.checked) false ⟨#[], #[.slice none 0 0, .slice none 0 0], []⟩ 8 (by kernel_rfl) (by kernel_rfl) (by kernel_rfl) (by kernel_rfl)) ?_
  intro W base args ds gs before hval0 hW hcnd hsz0 _
  have hsz : (DataW.weightsEach Tryz.prog (Tryz.f6.params.toList ++ Rows.applyPartsSpec.plain.varTypes Tryz.prog) (ds ++ gs)).all (· ≤ reachBytes) = true := hsz0
  have hval : ∀ (j : Nat) t v, Tryz.f6.params[j]? = some t → args[j]? = some v → Value.okWide Tryz.prog W .any base t v := hval0
  have hW' := hW
  obtain ⟨p, q, hA0, hV, rfl, hfz, hnd⟩ := hW
  have hA : DataW.TrodAll enc Tryz.prog W 0 (fun _ => true) true Tryz.f6.params.toList args.toList ds p := hA0
  rw [Tryz.params6] at hA hval hsz
  obtain ⟨v0, vs0, d0, ds0, p0, q0, hargs, rfl, rfl, h0, r0⟩ := trodAll_cons hA
  obtain ⟨v1, vs1, d1, ds1, p1, q1, rfl, rfl, rfl, h1, r1⟩ := trodAll_cons r0
  obtain ⟨rfl, rfl, rfl⟩ := trodAll_nil r1
  obtain rfl : args = #[v0, v1] := by cases args; simp_all
  obtain ⟨rfl, rfl⟩ := trodVars_none hV
  have k0 := h0
  have lt0 : ∀ x ∈ p0, x.block < W.heap.size := by obtain ⟨m, hm⟩ := k0; exact DataW.trod_lt m _ _ _ hm
  obtain ⟨l0, x0⟩ := Rd.open_list 6 Tryz.underlying22 (by kernel_rfl) (by decide) Shapes.opens_op_Op (hval 0 22 v0 rfl rfl) h0
  have k1 := h1
  have lt1 : ∀ x ∈ p1, x.block < W.heap.size := by obtain ⟨m, hm⟩ := k1; exact DataW.trod_lt m _ _ _ hm
  obtain ⟨l1, x1⟩ := Rd.open_list 6 Tryz.underlying22 (by kernel_rfl) (by decide) Shapes.opens_op_Op (hval 1 22 v1 rfl rfl) h1
  clear hA0 hval0 hsz0 hsz
  refine (LParts.law_calls W l0 v0 x0 l1 v1 x1).mono fun e W' ⟨he, bel⟩ => ?_
  subst he
  exact ⟨_, rfl, _, _, _, [], _, [], hW', trodAll_mk1 (shut_bool Tryz.underlying4 _), (trodAll_cons_mk (Below.trod laidOut (by kernel_rfl) (of_decide_eq_true (by kernel_rfl)) k0 bel lt0) (trodAll_cons_mk (Below.trod laidOut (by kernel_rfl) (of_decide_eq_true (by kernel_rfl)) k1 bel lt1) trodAll_mk0)), rfl, bel.frame _, fun h => by cases h⟩
set_option maxHeartbeats 20000000 in
theorem closed : joinedFacts Tryz.pinned.checked.prog 6 Tryz.f6 Rows.applyPartsSpec Rows.applyPartsRow = true := by
  unfold joinedFacts
  repeat' (with_reducible refine Bool.and_eq_true_iff.2 ⟨?_, ?_⟩)
  all_goals as_aux_lemma => kernel_rfl
theorem over : Rows.applyPartsRow.holds Tryz.pinned (OpenSpec.ofChange Rows.applyPartsSpec) :=
  OpenClaim.holds_of_wide 6 Tryz.f6 rfl rfl rfl rfl rfl rfl rfl ⟨rfl, rfl, rfl, rfl, rfl⟩ rfl rfl rfl rfl rfl (by kernel_rfl) Tryz.func6 closed
    (of_decide_eq_true (by kernel_rfl)) (by unfold Func.isWrapper; first | (rw [if_pos (by decide +kernel)]; kernel_rfl) | (rw [if_neg (by decide +kernel)]; exact ⟨rfl, rfl⟩))
    (fun os started H enc _ => lifted os started H enc)
theorem proved : Rows.ApplyPartsSaid := over
end Go.Proofs.YthdenkkllpkplaaGreat.applyParts
namespace Go.Proofs.YthdenkkllpkplaaGreat
/-- The row, under a short name, for the claim. -/
theorem applyParts_holds : Rows.ApplyPartsSaid := applyParts.proved
#print axioms applyParts_holds
end Go.Proofs.YthdenkkllpkplaaGreat
end
