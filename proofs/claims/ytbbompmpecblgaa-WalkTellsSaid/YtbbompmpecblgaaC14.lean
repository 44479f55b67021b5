/- Joined by a program: FSameR, FNew, FDemo, LShown, LTops, LKinds. -/
import Derived.Deep.DeepCutAuto
import Derived.Deep.RegionHeld3
import Derived.Test.YtbbompmpecblgaaC13
import Derived.Test.YtbbompmpecblgaaC08
import Derived.Test.YtbbompmpecblgaaC06
import Derived.Test.YtbbompmpecblgaaC11
import Derived.Test.YtbbompmpecblgaaC10
section
/- Equality of forests. -/
namespace Go.Proofs.Ytbbompmpecblgaa.FSameR
open Go Go.RowKit Go.Proofs.Ytbbompmpecblgaa.Seq Go.Proofs.Ytbbompmpecblgaa.WS Go.Proofs.Ytbbompmpecblgaa.FS Go.Proofs.Ytbbompmpecblgaa.WordIt Go.Proofs.Ytbbompmpecblgaa.Mem Go.Proofs.Ytbbompmpecblgaa.Rd Go.Proofs.Ytbbompmpecblgaa.Word Go.Proofs.Ytbbompmpecblgaa.WordHas Go.Proofs.Ytbbompmpecblgaa.Shapes Go.Proofs.Ytbbompmpecblgaa.FFam Go.Proofs.Ytbbompmpecblgaa.FMay Go.Proofs.Ytbbompmpecblgaa.FSame Go.Proofs.Ytbbompmpecblgaa.FSameN
set_option linter.unusedVariables false
set_option linter.unusedSimpArgs false

set_option maxRecDepth 100000 in
set_option maxHeartbeats 4000000 in
theorem RefSame_calls (w : World) (v1 v2 : Value) (a b : Fo) (h1 : RdF w.heap.size w v1 a) (h2 : RdF w.heap.size w v2 b) :
    Calls Try.prog 30 #[v1, v2] w fun e w' => e = .returned (.bool (decide (a = b))) ∧ Below w.heap.size w w' := by
  have HR1 := Lib.hid (fun w' hb => h1.below nodeE_keeps (w' := w') hb (Nat.le_refl _))
  have HR2 := Lib.hid (fun w' hb => h2.below nodeE_keeps (w' := w') hb (Nat.le_refl _))
  obtain ⟨A1, c1, rfl, l1, m1, _⟩ := h1.form
  obtain ⟨A2, c2, rfl, l2, m2, _⟩ := h2.form
  simp only [maxLen] at m1 m2
  clear h1 h2
  by_cases hl : a.length = b.length
  case neg =>
    have hr := list_ne_len hl
    have e1 : ((a.length : Int) == (b.length : Int)) = false := by rw [beq_eq_false_iff_ne]; omega
    have e2 : ((a.length : Int) != (b.length : Int)) = true := by rw [bne_iff_ne]; omega
    have Hr := Lib.hid hr; clear hr hl
    go_enter Try.func30, Try.ntmps30
    go_wp2_with fail
    go_ret
    exact ⟨ret_bool Hr.out.symm, Below.refl _ _⟩
  case pos =>
    have e1 : ((a.length : Int) == (b.length : Int)) = true := by rw [beq_iff_eq]; omega
    have e2 : ((a.length : Int) != (b.length : Int)) = false := by rw [hl]; simp
    have hne := fun k ha hb h => list_ne_at (a := a) (b := b) (k := k) ha hb h
    have heq := list_eq_at (a := a) (b := b) hl
    have Hne := Lib.hid hne; have Heq := Lib.hid heq
    clear hne heq
    go_enter Try.func30, Try.ntmps30
    have Hl := Lib.hid hl; clear hl
    go_wp2_with fail
    clear e1 e2
    go_loopw [5] (fun i wr => ∃ k : Nat, k ≤ a.length ∧ i = .int .i64 k ∧ Below w.heap.size w wr ∧ ∀ j (ha : j < a.length) (hb : j < b.length), j < k → a[j] = b[j]) (fun i _ => a.length - (intOf i).toNat)
    case atStart => exact ⟨0, Nat.zero_le _, rfl, Below.refl _ _, fun j _ _ h => by omega⟩
    case round =>
      obtain ⟨k, hk, rfl, hb, hall⟩ := hrel
      by_cases hlt : k < a.length
      · have hltb : k < b.length := by rw [← Hl.out]; exact hlt
        obtain ⟨b1, o1, Aa, ca, Ak, ck, he1, hbl1, g0, g1, g2, g3, g4, g5, ra, rk, la, lca, lk, lck, _⟩ := node_at (HR1.out _ hb) hlt
        obtain ⟨b2, o2, Ba, da, Bk, dk, he2, hbl2, f0, f1, f2, f3, f4, f5, sa, sk, _⟩ := node_at (HR2.out _ hb) hltb
        subst he1
        subst he2
        have hnx : a[k] = b[k] → ∀ j (ha : j < a.length) (hb : j < b.length), j < k + 1 → a[j] = b[j] := fun h j ha hb hj => by
          by_cases e : j = k
          · subst e; exact h
          · exact hall j ha hb (by omega)
        have hno := Hne.out k hlt hltb
        have hsz := hb.size
        generalize hx : a[k] = x at *
        generalize hy : b[k] = y at *
        obtain ⟨k1, n1, t1, a1, p1, cc1⟩ := x
        obtain ⟨k2, n2, t2, a2, p2, cc2⟩ := y
        simp only at *
        have hs : ∀ w1, Below wr.heap.size wr w1 → Calls Try.prog 64 #[.agg #[.int .i64 k1, .string n1, .string t1, .slice Aa a1.length ca, .int .i64 p1, .slice Ak cc1.length ck], .agg #[.int .i64 k2, .string n2, .string t2, .slice Ba a2.length da, .int .i64 p2, .slice Bk cc2.length dk]] w1 fun e w' =>
            e = .returned (.bool (decide ((⟨k1, n1, t1, a1, p1, cc1⟩ : Nd) = ⟨k2, n2, t2, a2, p2, cc2⟩))) ∧ Below w1.heap.size w1 w' := fun w1 hw1 =>
          refNode_calls w1 k1 k2 p1 p2 n1 n2 t1 t2 a1 a2 cc1 cc2 _ _ _ _ (((ra.mono attrE_keeps hsz).keep attrE_keeps hw1 (Nat.le_refl _)).mono attrE_keeps hw1.size) (((sa.mono attrE_keeps hsz).keep attrE_keeps hw1 (Nat.le_refl _)).mono attrE_keeps hw1.size)
            (((rk.mono (intE_keeps _) hsz).keep (intE_keeps _) hw1 (Nat.le_refl _)).mono (intE_keeps _) hw1.size) (((sk.mono (intE_keeps _) hsz).keep (intE_keeps _) hw1 (Nat.le_refl _)).mono (intE_keeps _) hw1.size)
        by_cases hxy : (⟨k1, n1, t1, a1, p1, cc1⟩ : Nd) = ⟨k2, n2, t2, a2, p2, cc2⟩
        · rw [decide_eq_true hxy] at hs
          have Hs := Lib.hid hs; have Hb := Lib.hid hb; have Hnx := Lib.hid (hnx hxy)
          clear hs hb hall hnx hno hxy hx hy ra rk sa sk
          go_wp2_with fail
          go_region_with (go_at_call 64; (first | refine (Hs.out _ (Below.refl _ _)).mono ?_ | refine (Hs.out _ (Below.refl _ _).drew).mono ?_); rintro e w5 ⟨rfl, hb5⟩; have Hb5 := Lib.hid hb5; clear hb5)
          all_goals go_wp2_with fail
          all_goals
            go_roundw
            case rel => exact ⟨k + 1, by omega, by go_num, by (first | exact bthen Hb.out Hb5.out | exact bthen Hb.out.drew Hb5.out | exact (bthen Hb.out Hb5.out).drew | exact (bthen Hb.out.drew Hb5.out).drew), Hnx.out⟩
            case measure => simp [intOf]; omega
        · rw [decide_eq_false hxy] at hs
          have Hs := Lib.hid hs; have Hb := Lib.hid hb; have Hno := Lib.hid (hno hxy)
          clear hs hb hall hnx hno hxy hx hy ra rk sa sk
          go_wp2_with fail
          go_region_with (go_at_call 64; (first | refine (Hs.out _ (Below.refl _ _)).mono ?_ | refine (Hs.out _ (Below.refl _ _).drew).mono ?_); rintro e w5 ⟨rfl, hb5⟩; have Hb5 := Lib.hid hb5; clear hb5)
          all_goals go_wp2_with fail
          all_goals
            go_ret
            exact ⟨ret_bool Hno.out.symm, by (first | exact bthen Hb.out Hb5.out | exact bthen Hb.out.drew Hb5.out | exact (bthen Hb.out Hb5.out).drew | exact (bthen Hb.out.drew Hb5.out).drew)⟩
      · have hr := Heq.out (fun j ha hb => hall j ha hb (by omega))
        have Hr := Lib.hid hr; have Hb := Lib.hid hb
        clear hb hall hr
        obtain rfl : k = a.length := by omega
        go_wp2_with fail
        go_ret
        exact ⟨ret_bool Hr.out.symm, Hb.out⟩
end Go.Proofs.Ytbbompmpecblgaa.FSameR
end
section
/- forest.New. -/
namespace Go.Proofs.Ytbbompmpecblgaa.FNew
open Go Go.RowKit Go.Proofs.Ytbbompmpecblgaa.Seq Go.Proofs.Ytbbompmpecblgaa.WS Go.Proofs.Ytbbompmpecblgaa.FS Go.Proofs.Ytbbompmpecblgaa.Mem Go.Proofs.Ytbbompmpecblgaa.Rd Go.Proofs.Ytbbompmpecblgaa.Shapes
set_option linter.unusedVariables false
set_option linter.unusedSimpArgs false
/-- The document alone. -/
def newF : Fo := [{ parent := -1 }]
theorem New_calls (w : World) : Calls Try.prog 36 #[] w fun e w' => ∃ v, e = .returned v ∧ RdF w'.heap.size w' v newF ∧ Below w.heap.size w w' := by
  go_enter Try.func36, Try.ntmps36
  go_wp2_with fail
  go_ret
  refine ⟨_, rfl, ?_, (Below.refl _ _).alloc (Nat.le_refl _) _⟩
  have h0 := World.ownsRow_lit (base := w.heap.size) (e := 45) (size := 6) w #[.int .i64 0, .string ⟨#[]⟩, .string ⟨#[]⟩, .slice none 0 0, .int .i64 (-1), .slice none 0 0] 1 (Nat.le_refl _) (by simp [maxLen]) rfl
  refine RdL.of_own (l := newF) h0 rfl (fun g hg => (h0.lt g hg).2) (fun i hi => ?_)
  have : i = 0 := by have : i < 1 := hi; omega
  subst this
  exact ⟨.slice none 0 0, .slice none 0 0, rfl, RdL.nil, RdL.nil, show (0 : Nat) ≤ maxLen by decide, show (0 : Nat) ≤ maxLen by decide, show (Lit.int .i64 0).wf = true by decide, show (Lit.int .i64 (-1)).wf = true by decide⟩
end Go.Proofs.Ytbbompmpecblgaa.FNew
end
section
/- The forest that the law's first lines show. No program. -/
namespace Go.Proofs.Ytbbompmpecblgaa.FS
open Go.Proofs.Ytbbompmpecblgaa.WS
set_option linter.unusedVariables false
def demoF : Fo := [⟨0, ⟨#[]⟩, ⟨#[]⟩, [], -1, [1]⟩, ⟨1, ⟨#[100, 105, 118]⟩, ⟨#[]⟩, [], 0, [2]⟩, ⟨2, ⟨#[]⟩, ⟨#[120, 60]⟩, [], 1, []⟩]
theorem demo_family : familyB demoF = true := by decide
theorem demo_climbs : climbsP demoF := by
  intro i hi
  have h3 : i < 3 := hi
  match i, h3 with
  | 0, _ => exact ⟨1, by simp only [Up]; decide⟩
  | 1, _ => exact ⟨2, by simp only [Up]; decide⟩
  | 2, _ => exact ⟨3, by simp only [Up]; decide⟩
theorem demo_may : mayB demoF = true := by
  unfold mayB
  rw [demo_family, climbs_true demo_climbs]
  decide
theorem demo_below : belowB demoF 0 2 = true := below_eq demo_may (by decide) ⟨fun _ => rfl, fun _ => ⟨by decide, 2, by simp only [Reach]; decide⟩⟩
theorem demo_tops : (topsL demoF).length = 1 := by decide
theorem demo_print : printF demoF 0 = [60, 100, 105, 118, 62, 120, 38, 108, 116, 59, 60, 47, 100, 105, 118, 62] := by
  unfold printF
  rw [if_pos ⟨demo_may, by decide⟩, printL_eq demo_family demo_climbs (by decide)]
  rw [show (at_ demoF 0).kids = [1] by decide, List.flatMap_cons, List.flatMap_nil, printL_eq demo_family demo_climbs (by decide)]
  rw [show (at_ demoF 1).kids = [2] by decide, List.flatMap_cons, List.flatMap_nil, printL_eq demo_family demo_climbs (by decide)]
  rw [show (at_ demoF 2).kids = [] by decide, List.flatMap_nil]
  decide
end Go.Proofs.Ytbbompmpecblgaa.FS
end
section
/- treillagelaw05.shown. -/
namespace Go.Proofs.Ytbbompmpecblgaa.LShown
open Go Go.RowKit Go.Proofs.Ytbbompmpecblgaa.Seq Go.Proofs.Ytbbompmpecblgaa.WS Go.Proofs.Ytbbompmpecblgaa.FS Go.Proofs.Ytbbompmpecblgaa.Mem Go.Proofs.Ytbbompmpecblgaa.Rd Go.Proofs.Ytbbompmpecblgaa.Shapes Go.Proofs.Ytbbompmpecblgaa.Word
set_option linter.unusedVariables false
set_option linter.unusedSimpArgs false

theorem lit_kids (w : World) (B b : Nat) (l : List Int) (hb : w.heap[b]? = some (.cells (l.map (Value.int .i64)).toArray 3 (0, 0))) (hB : b < B) (hl : l.length ≤ maxLen) (hw : ∀ x ∈ l, (Lit.int .i64 x).wf = true) : RdL (intE .i64) 1 B w (.slice (some ⟨b, 0, none⟩) l.length l.length) l := by
  refine ⟨_, _, rfl, Nat.le_refl _, hl, fun h0 => ⟨b, 0, rfl, hB, fun i hi => ⟨[.int .i64 l[i]], rfl, fun j u hj => ?_, rfl, hw _ (List.getElem_mem _)⟩⟩⟩
  have hj0 : j = 0 := by have := (List.getElem?_eq_some_iff.1 hj).1; simp at this; omega
  subst hj0
  simp at hj
  subst hj
  rw [cell_of_row _ _ _ _ _ _ hb]
  simp [hi]
theorem six {a b c d e f u : Value} {L : List Value} {j : Nat} (o : Nat) (hj : [a, b, c, d, e, f][j]? = some u) (hL : L.drop o = [a, b, c, d, e, f] ++ L.drop (o + 6)) {k : Nat} (hk : k = o + j := by simp) : L.toArray[k]? = some u := by
  subst hk
  rw [List.getElem?_toArray, ← List.getElem?_drop, hL]
  exact List.getElem?_append_left (List.getElem?_eq_some_iff.1 hj).1 ▸ hj
theorem demo_rd (w : World) (b1 b2 b3 : Nat) (h1 : w.heap[b1]? = some (.cells #[.int .i64 1] 3 (0, 0))) (h2 : w.heap[b2]? = some (.cells #[.int .i64 2] 3 (0, 0)))
    (h3 : w.heap[b3]? = some (.cells #[.int .i64 0, .string ⟨#[]⟩, .string ⟨#[]⟩, .slice none 0 0, .int .i64 (-1), .slice (some ⟨b1, 0, none⟩) 1 1, .int .i64 1, .string ⟨#[100, 105, 118]⟩, .string ⟨#[]⟩, .slice none 0 0, .int .i64 0, .slice (some ⟨b2, 0, none⟩) 1 1,
      .int .i64 2, .string ⟨#[]⟩, .string ⟨#[120, 60]⟩, .slice none 0 0, .int .i64 1, .slice none 0 0] 45 (0, 0))) : RdF w.heap.size w (.slice (some ⟨b3, 0, none⟩) 3 3) demoF := by
  have l1 := lt_heap h1
  have l2 := lt_heap h2
  have l3 := lt_heap h3
  have r1 := lit_kids w w.heap.size b1 [1] h1 l1 (by decide) (by decide)
  have r2 := lit_kids w w.heap.size b2 [2] h2 l2 (by decide) (by decide)
  refine ⟨_, 3, rfl, by decide, by decide, fun h0 => ⟨b3, 0, rfl, l3, fun i hi => ?_⟩⟩
  have hi3 : i < 3 := hi
  match i, hi3 with
  | 0, _ => exact ⟨[.int .i64 0, .string ⟨#[]⟩, .string ⟨#[]⟩, .slice none 0 0, .int .i64 (-1), .slice (some ⟨b1, 0, none⟩) 1 1], rfl, fun j u hj => by rw [cell_of_row _ _ _ _ _ _ h3]; exact six 0 hj (by simp), _, _, rfl, RdL.nil, r1, show (0 : Nat) ≤ maxLen by decide, show (0 : Nat) ≤ maxLen by decide, show (Lit.int .i64 0).wf = true by decide, show (Lit.int .i64 (-1)).wf = true by decide⟩
  | 1, _ => exact ⟨[.int .i64 1, .string ⟨#[100, 105, 118]⟩, .string ⟨#[]⟩, .slice none 0 0, .int .i64 0, .slice (some ⟨b2, 0, none⟩) 1 1], rfl, fun j u hj => by rw [cell_of_row _ _ _ _ _ _ h3]; exact six 6 hj (by simp), _, _, rfl, RdL.nil, r2, show (3 : Nat) ≤ maxLen by decide, show (0 : Nat) ≤ maxLen by decide, show (Lit.int .i64 1).wf = true by decide, show (Lit.int .i64 0).wf = true by decide⟩
  | 2, _ => exact ⟨[.int .i64 2, .string ⟨#[]⟩, .string ⟨#[120, 60]⟩, .slice none 0 0, .int .i64 1, .slice none 0 0], rfl, fun j u hj => by rw [cell_of_row _ _ _ _ _ _ h3]; exact six 12 hj (by simp), _, _, rfl, RdL.nil, RdL.nil, show (0 : Nat) ≤ maxLen by decide, show (2 : Nat) ≤ maxLen by decide, show (Lit.int .i64 2).wf = true by decide, show (Lit.int .i64 1).wf = true by decide⟩
theorem new1_rd (w : World) (b : Nat) (h : w.heap[b]? = some (.cells #[.int .i64 0, .string ⟨#[]⟩, .string ⟨#[]⟩, .slice none 0 0, .int .i64 (-1), .slice none 0 0] 45 (0, 0))) : RdF w.heap.size w (.slice (some ⟨b, 0, none⟩) 1 1) FNew.newF := by
  have l1 := lt_heap h
  refine ⟨_, 1, rfl, by decide, by decide, fun h0 => ⟨b, 0, rfl, l1, fun i hi => ?_⟩⟩
  have : i = 0 := by have : i < 1 := hi; omega
  subst this
  exact ⟨[.int .i64 0, .string ⟨#[]⟩, .string ⟨#[]⟩, .slice none 0 0, .int .i64 (-1), .slice none 0 0], rfl, fun j u hj => by rw [cell_of_row _ _ _ _ _ _ h]; exact six 0 hj (by simp), _, _, rfl, RdL.nil, RdL.nil, show (0 : Nat) ≤ maxLen by decide, show (0 : Nat) ≤ maxLen by decide, show (Lit.int .i64 0).wf = true by decide, show (Lit.int .i64 (-1)).wf = true by decide⟩
theorem slice_of {w : World} {base : Nat} {e : TypeId} {sz n : Nat} {v : Value} {xs : List Value} (h : w.ownsRow base e sz v n xs) : ∃ A c, v = .slice A n c := by
  rcases h.2 with ⟨rfl, rfl⟩ | ⟨g, cap, cur, rfl, _⟩
  · exact ⟨_, _, rfl⟩
  · exact ⟨_, _, rfl⟩
theorem new1_calls (w : World) : Calls Try.prog 36 #[] w fun e w' => ∃ A c, e = .returned (.slice A 1 c) ∧ RdF w'.heap.size w' (.slice A 1 c) FNew.newF ∧ Below w.heap.size w w' := by
  refine (FNew.New_calls w).mono ?_
  rintro e w' ⟨v, rfl, hr, hb⟩
  obtain ⟨A, c, rfl, _, _, hr'⟩ := hr.form
  exact ⟨A, c, rfl, hr', hb⟩
theorem demo_kids : ∀ n ∈ demoF, n.kids.length ≤ 1000 := by decide
set_option maxRecDepth 100000 in
set_option maxHeartbeats 4000000 in
theorem shown_calls (w : World) : Calls Try.prog 28 #[] w fun e w' => e = .returned (.bool true) ∧ Below w.heap.size w w' := by
  go_enter Try.func28, Try.ntmps28
  go_upto_region 2 with fail
  obtain ⟨W0, hW0⟩ : ∃ W0, ((w.alloc (.cells #[.int .i64 1] 3)).alloc (.cells #[.int .i64 2] 3)).alloc (.cells #[.int .i64 0, .string ⟨#[]⟩, .string ⟨#[]⟩, .slice none 0 0, .int .i64 (-1), .slice (some ⟨w.heap.size, 0, none⟩) 1 1, .int .i64 1, .string ⟨#[100, 105, 118]⟩, .string ⟨#[]⟩, .slice none 0 0, .int .i64 0, .slice (some ⟨w.heap.size + 1, 0, none⟩) 1 1,
      .int .i64 2, .string ⟨#[]⟩, .string ⟨#[120, 60]⟩, .slice none 0 0, .int .i64 1, .slice none 0 0] 45) = W0 := ⟨_, rfl⟩
  have hrd : RdF W0.heap.size W0 (.slice (some ⟨w.heap.size + 1 + 1, 0, none⟩) 3 3) demoF := by
    rw [← hW0]
    exact demo_rd _ w.heap.size (w.heap.size + 1) (w.heap.size + 1 + 1) (heap_old (heap_old (World.alloc_heap_new _ _))) (heap_old (heap_new (by simp))) (heap_new (by simp))
  have hb0 : Below w.heap.size w W0 := by rw [← hW0]; exact (((Below.refl _ _).alloc (Nat.le_refl _) _).alloc (by simp) _).alloc (by simp; omega) _
  rw [hW0]
  have hr := fun w' (hb : Below W0.heap.size W0 w') => (hrd.below nodeE_keeps (w' := w') hb (Nat.le_refl _)).mono nodeE_keeps hb.size
  have h1 := fun w' hb => FMay.May_calls w' _ demoF (hr w' hb) demo_kids
  have h2 := fun w' hb => Pr.Print_calls w' _ demoF 0 (hr w' hb) demo_kids
  have h3 := fun w' hb => FBelow.Below_calls w' _ demoF 0 2 (hr w' hb) demo_kids
  have h4 := fun w' hb => FTops.Tops_calls w' _ demoF (hr w' hb) demo_kids
  rw [demo_may] at h1 h4
  rw [demo_print] at h2
  rw [demo_below] at h3
  rw [if_pos rfl, demo_tops] at h4
  have hs : ∀ w' A c, RdF w'.heap.size w' (.slice A 1 c) FNew.newF → Calls Try.prog 29 #[.slice A 1 c, .slice (some ⟨w'.heap.size, 0, none⟩) 1 1] (w'.alloc (.cells #[.int .i64 0, .string ⟨#[]⟩, .string ⟨#[]⟩, .slice none 0 0, .int .i64 (-1), .slice none 0 0] 45)) fun e w'' => e = .returned (.bool true) ∧ Below (w'.alloc (.cells #[.int .i64 0, .string ⟨#[]⟩, .string ⟨#[]⟩, .slice none 0 0, .int .i64 (-1), .slice none 0 0] 45)).heap.size (w'.alloc (.cells #[.int .i64 0, .string ⟨#[]⟩, .string ⟨#[]⟩, .slice none 0 0, .int .i64 (-1), .slice none 0 0] 45)) w'' := fun w' A c hr => by
    have := FSameF.Same_calls (w'.alloc (.cells #[.int .i64 0, .string ⟨#[]⟩, .string ⟨#[]⟩, .slice none 0 0, .int .i64 (-1), .slice none 0 0] 45)) _ _ FNew.newF FNew.newF ((hr.below nodeE_keeps ((Below.refl _ _).alloc (Nat.le_refl _) _) (Nat.le_refl _)).mono nodeE_keeps (by simp)) (new1_rd _ w'.heap.size (World.alloc_heap_new _ _))
    simpa using this
  have H1 := Lib.hid h1; have H2 := Lib.hid h2; have H3 := Lib.hid h3; have H4 := Lib.hid h4; have HS := Lib.hid hs; have HB0 := Lib.hid hb0
  have htok : Hid True := Lib.hid trivial
  clear h1 h2 h3 h4 hs hb0 hrd hr hW0
  go_wp2_with (first
    | (go_at_call 32; (with_reducible refine (H1.out _ (Below.refl _ _)).mono ?_); rintro e w5 ⟨rfl, hb5⟩; have Hb5 := Lib.hid hb5; clear hb5)
    | (go_at_call 35; (with_reducible refine (H2.out _ Hb5.out).mono ?_); rintro e w6 ⟨rfl, hb6⟩; have Hb6 := Lib.hid (bthen Hb5.out hb6); clear hb6)
    | (go_at_call 34; (with_reducible refine (H3.out _ Hb6.out).mono ?_); rintro e w7 ⟨rfl, hb7⟩; have Hb7 := Lib.hid (bthen Hb6.out hb7); clear hb7)
    | (go_at_call 33; (with_reducible refine (H4.out _ Hb7.out).mono ?_); rintro e w8 ⟨v8, rfl, ho8, hb8⟩; obtain ⟨A8, c8, rfl⟩ := slice_of ho8; have Hb8 := Lib.hid (bthen Hb7.out hb8); clear hb8 ho8)
    | (go_at_call 36; have _t := htok; (with_reducible refine (new1_calls _).mono ?_); rintro e w9 ⟨A9, c9, rfl, hr9, hb9⟩; have HS9 := Lib.hid (HS.out w9 A9 c9 hr9); have Hb9 := Lib.hid (bthen Hb8.out hb9); clear hb9 hr9 htok _t)
    | (go_at_call 29; (with_reducible refine (HS9.out).mono ?_); rintro e w10 ⟨rfl, hb10⟩; have Hb10 := Lib.hid (bthen (Hb9.out.alloc Hb9.out.size _) hb10); clear hb10)
    | (go_at_call 36; (with_reducible refine (new1_calls _).mono ?_); rintro e w11 ⟨A11, c11, rfl, hr11, hb11⟩; have Hb11 := Lib.hid (bthen Hb10.out hb11); clear hb11 hr11))
  go_ret
  exact ⟨rfl, HB0.out.trans (Hb11.out.mono HB0.out.size)⟩
end Go.Proofs.Ytbbompmpecblgaa.LShown
end
section
/- ForestTops. -/
namespace Go.Proofs.Ytbbompmpecblgaa.LTops
open Go Go.RowKit Go.Proofs.Ytbbompmpecblgaa.Seq Go.Proofs.Ytbbompmpecblgaa.WS Go.Proofs.Ytbbompmpecblgaa.FS Go.Proofs.Ytbbompmpecblgaa.Mem Go.Proofs.Ytbbompmpecblgaa.Rd Go.Proofs.Ytbbompmpecblgaa.Shapes Go.Proofs.Ytbbompmpecblgaa.Word Go.Proofs.Ytbbompmpecblgaa.FFam Go.Proofs.Ytbbompmpecblgaa.LBnd
set_option linter.unusedVariables false
set_option linter.unusedSimpArgs false

theorem own_at {w : World} {base : Nat} {e : TypeId} {A : Option Addr} {n c : Nat} {l : List Int} (h : w.ownsRow base e 1 (.slice A n c) n (l.map (Value.int .i64))) (hn : 0 < n) (hl : l.length = n) :
    ∃ g, A = some ⟨g, 0, none⟩ ∧ g < w.heap.size ∧ ∀ j (hj : j < l.length), w.cell? ⟨g, j, none⟩ = some (.int .i64 l[j]) := by
  have hc := fun gg hgg i s hi => h.cells (g := gg) hgg i s hi
  have hlt := h.lt
  rcases h.2 with ⟨h1, h0⟩ | ⟨g, cap, cur, h1, _⟩
  · omega
  · injection h1 with h1 _ _
    subst h1
    refine ⟨g, rfl, (hlt g rfl).2, fun j hj => ?_⟩
    have := hc g rfl j (.int .i64 l[j]) (by rw [List.getElem?_map, List.getElem?_eq_getElem hj]; rfl)
    rwa [Addr.add_lit, Nat.zero_add] at this
set_option maxRecDepth 100000 in
set_option maxHeartbeats 4000000 in
theorem law_calls (w : World) (f : Fo) (v : Value) (h : RdF w.heap.size w v f) : Calls Try.prog 9 #[v] w fun e w' => e = .returned (.bool true) ∧ Below w.heap.size w w' := by
  have hbn := bounded_calls w v f h
  obtain ⟨A0, c0, rfl, hl0, hc0, h'⟩ := h.form
  simp only [maxLen] at hc0
  have hrd := fun w' (hb : Below w.heap.size w w') => (h'.below nodeE_keeps (w' := w') hb (Nat.le_refl _)).mono nodeE_keeps hb.size
  cases hB : bndB f with
  | false =>
    rw [hB] at hbn
    have Hbn := Lib.hid hbn
    clear hbn h h' hrd
    go_enter Try.func9, Try.ntmps9
    go_wp2_with (first | (go_at_call 27; (with_reducible refine (Hbn.out).mono ?_); rintro e w5 ⟨rfl, rfl⟩) | (go_at_call 28; (with_reducible refine (LShown.shown_calls _).mono ?_); rintro e w6 ⟨rfl, hb6⟩; have Hb6 := Lib.hid hb6; clear hb6))
    go_ret
    exact ⟨rfl, Hb6.out⟩
  | true =>
    rw [hB] at hbn
    have hkm := bnd_kids hB
    have hmy := FMay.May_calls w _ f h hkm
    cases hm : mayB f with
    | false =>
      rw [hm] at hmy
      have Hbn := Lib.hid hbn; have Hmy := Lib.hid hmy
      clear hbn hmy h h' hrd hkm
      go_enter Try.func9, Try.ntmps9
      go_wp2_with (first | (go_at_call 27; (with_reducible refine (Hbn.out).mono ?_); rintro e w5 ⟨rfl, rfl⟩) | (go_at_call 32; (with_reducible refine (Hmy.out).mono ?_); rintro e w5 ⟨rfl, hb5⟩; have Hb5 := Lib.hid hb5; clear hb5) | (go_at_call 28; (with_reducible refine (LShown.shown_calls _).mono ?_); rintro e w6 ⟨rfl, hb6⟩; have Hb6 := Lib.hid hb6; clear hb6))
      go_ret
      exact ⟨rfl, bthen Hb5.out Hb6.out⟩
    | true =>
      rw [hm] at hmy
      have hbl := fun w' hb t i => FBelow.Below_calls w' _ f t i (hrd w' hb) hkm
      have htp := fun w' hb => FTops.Tops_calls w' _ f (hrd w' hb) hkm
      rw [hm, if_pos rfl] at htp
      have hone := fun i hi => top_one hm (i := i) hi
      have hslf := fun i hi => below_self hm (i := i) hi
      have hpar := fun i hi h0 => below_parent hm (i := i) hi h0
      obtain ⟨TL, hTL⟩ := tops_head hm
      have hlen := (may_len hm).2
      have Hbn := Lib.hid hbn; have Hmy := Lib.hid hmy; have Hbl := Lib.hid hbl; have Htp := Lib.hid htp; have Hone := Lib.hid hone; have Hslf := Lib.hid hslf; have Hpar := Lib.hid hpar; have HTL := Lib.hid hTL; have Hrd := Lib.hid hrd
      obtain ⟨T, hT⟩ : ∃ T, T = topsL f := ⟨_, rfl⟩
      have HT := Lib.hid hT
      have htl : T.length ≤ 60 := by rw [hT]; exact Nat.le_trans (FTops.topsTo_le f f.length) hlen
      have htl0 : 0 < T.length := by rw [hT, hTL]; simp
      rw [← hT] at Htp
      clear hbn hmy h h' hrd hkm hbl htp hone hslf hpar hTL hm hB hT
      go_enter Try.func9, Try.ntmps9
      go_wp2_with (first
        | (go_at_call 27; (with_reducible refine (Hbn.out).mono ?_); rintro e w5 ⟨rfl, rfl⟩)
        | (go_at_call 32; (with_reducible refine (Hmy.out).mono ?_); rintro e w5 ⟨rfl, hb5⟩; have Hb5 := Lib.hid hb5; clear hb5)
        | (go_at_call 28; (with_reducible refine (LShown.shown_calls _).mono ?_); rintro e w6 ⟨rfl, hb6⟩; have Hb6 := Lib.hid (bthen Hb5.out hb6); clear hb6)
        | (go_at_call 33; (with_reducible refine (Htp.out _ Hb6.out).mono ?_); rintro e w7 ⟨v7, rfl, ho7, hb7⟩; obtain ⟨A7, c7, rfl⟩ := LShown.slice_of ho7; have Ho7 := Lib.hid ho7; have Hb7 := Lib.hid (bthen Hb6.out hb7); clear hb7 ho7))
      obtain ⟨g7, rfl, hg7, hcell7⟩ := own_at Ho7.out htl0 rfl
      have Hcell := Lib.hid (fun wr (hb : Below w7.heap.size w7 wr) j (hj : j < T.length) => cell_grow hb (hcell7 j hj))
      have Hc7 := Lib.hid (fun wr (hb : Below w7.heap.size w7 wr) => bthen Hb7.out hb)
      clear hg7 hcell7 Ho7
      go_loopw [4] (fun i wr => ∃ k : Nat, k ≤ f.length ∧ i = .int .i64 k ∧ Below w7.heap.size w7 wr) (fun i _ => f.length - (intOf i).toNat)
      case atStart => exact ⟨0, Nat.zero_le _, rfl, Below.refl _ _⟩
      case round =>
        obtain ⟨k, hk, rfl, hb⟩ := hrel
        have Hb := Lib.hid hb
        clear hb
        obtain ⟨wo, rfl⟩ : ∃ wo : World, wo = wr := ⟨_, rfl⟩
        by_cases hlt : k < f.length
        · have hn : isNode f (k : Int) = true := (node_iff _ _).2 ⟨by omega, by omega⟩
          have hcnt := Hone.out k hn
          rw [← HT.out] at hcnt
          have hsl := Hslf.out k hn
          have hpr := Hpar.out k hn
          have Hcnt := Lib.hid hcnt; have Hsl := Lib.hid hsl; have Hpr := Lib.hid hpr
          clear hn hcnt hsl hpr
          go_wp2_with fail
          go_loopw [5, 6] (fun a i wr => ∃ j : Nat, j ≤ T.length ∧ i = .int .i64 j ∧ (∃ c : Nat, a = .int .i64 c ∧ c ≤ j ∧ Hid (c = (T.take j).countP (fun t => belowB f t k))) ∧ Below w7.heap.size w7 wr) (fun _ i _ => T.length - (intOf i).toNat)
          case atStart => exact ⟨0, Nat.zero_le _, rfl, ⟨0, rfl, Nat.le_refl _, Lib.hid rfl⟩, Hb.out⟩
          case round =>
            obtain ⟨j, hj, rfl, ⟨c, rfl, hcj, hc⟩, hb2⟩ := hrel
            by_cases hjl : j < T.length
            · have e1 := Hcell.out wr hb2 j hjl
              have hbc := Hbl.out wr (Hc7.out wr hb2) T[j] k
              have htk : (T.take (j + 1)).countP (fun t => belowB f t k) = (T.take j).countP (fun t => belowB f t k) + if belowB f T[j] k = true then 1 else 0 := by
                rw [List.take_succ_eq_append_getElem hjl, List.countP_append, List.countP_singleton]
              have Hb2 := Lib.hid hb2
              generalize T[j] = t at *
              cases hq : belowB f t k with
              | false =>
                rw [hq] at hbc
                rw [hq, if_neg (by decide)] at htk
                have Hbc := Lib.hid hbc; have Htk := Lib.hid htk
                clear hbc htk hq hb2
                go_wp2_with (go_at_call 34; (with_reducible refine (Hbc.out).mono ?_); rintro e w9 ⟨rfl, hb9⟩; have Hb9 := Lib.hid (bthen Hb2.out hb9); clear hb9)
                go_roundw
                case rel => exact ⟨j + 1, by omega, by go_num, ⟨c, rfl, by omega, Lib.hid (by rw [Htk.out, ← hc.out]; rfl)⟩, Hb9.out⟩
                case measure => simp [intOf]; omega
              | true =>
                rw [hq] at hbc
                rw [hq, if_pos rfl] at htk
                have Hbc := Lib.hid hbc; have Htk := Lib.hid htk
                clear hbc htk hq hb2
                go_wp2_with (go_at_call 34; (with_reducible refine (Hbc.out).mono ?_); rintro e w9 ⟨rfl, hb9⟩; have Hb9 := Lib.hid (bthen Hb2.out hb9); clear hb9)
                go_roundw
                case rel => exact ⟨j + 1, by omega, by go_num, ⟨c + 1, by go_num, by omega, Lib.hid (by rw [Htk.out, ← hc.out])⟩, Hb9.out⟩
                case measure => simp [intOf]; omega
            · obtain rfl : j = T.length := by omega
              rw [List.take_length, Hcnt.out] at hc
              obtain rfl : c = 1 := hc.out
              have hb3 := Hc7.out wr hb2
              have hq1 := Hbl.out wr hb3 k k
              rw [Hsl.out] at hq1
              obtain ⟨b, o, _, _, _, _, hA0, _, _, _, _, _, g4, _⟩ := node_at (Hrd.out wr hb3) hlt
              subst hA0
              rw [← at_nat hlt] at g4
              have hq2 := fun w' hb' => Hbl.out w' hb' k (at_ f k).parent
              have hq3 := fun w' hb' => Hbl.out w' hb' (at_ f k).parent k
              have Hb2 := Lib.hid hb2; have Hq1 := Lib.hid hq1
              by_cases hp0 : 0 ≤ (at_ f k).parent
              · obtain ⟨p1, p2⟩ := Hpr.out hp0
                rw [p1] at hq2
                rw [p2] at hq3
                have Hq2 := Lib.hid hq2; have Hq3 := Lib.hid hq3
                have hkeep : ∀ w', Below w7.heap.size w7 w' → w'.cell? ⟨b, o + k * 6 + 4, none⟩ = some (.int .i64 (at_ f k).parent) := fun w' hb' => by
                  obtain ⟨b2, o2, _, _, _, _, hA0, _, _, _, _, _, g4', _⟩ := node_at (Hrd.out w' (Hc7.out w' hb')) hlt
                  rw [at_nat hlt]; injection hA0 with hA0; injection hA0 with e1 e2 _; subst e1; subst e2; exact g4'
                have Hkeep := Lib.hid hkeep
                generalize (at_ f k).parent = pr at *
                clear hq1 hq2 hq3 hb2 hb3 p1 p2 hcj hc hkeep
                go_wp2_with (first
                  | (go_at_call 34; (with_reducible refine (Hq1.out).mono ?_); rintro e w9 ⟨rfl, hb9⟩; have g5 := Hkeep.out _ (bthen Hb2.out hb9); have Hb9 := Lib.hid (bthen Hb2.out hb9); clear hb9 Hq1)
                  | (go_at_call 34; (with_reducible refine (Hq2.out _ (Hc7.out _ Hb9.out)).mono ?_); rintro e w10 ⟨rfl, hb10⟩; have g6 := Hkeep.out _ (bthen Hb9.out hb10); have Hb10 := Lib.hid (bthen Hb9.out hb10); clear hb10 Hq2)
                  | (go_at_call 34; (with_reducible refine (Hq3.out _ (Hc7.out _ Hb10.out)).mono ?_); rintro e w11 ⟨rfl, hb11⟩; have Hb11 := Lib.hid (bthen Hb10.out hb11); clear hb11 Hq3))
                go_roundw
                case rel => exact ⟨k + 1, by omega, by go_num, Hb11.out⟩
                case measure => simp [intOf]; omega
              · have hp1 : (at_ f k).parent < 0 := by omega
                generalize (at_ f k).parent = pr at *
                clear hq1 hq2 hq3 hb2 hb3 hcj hc hp0
                go_wp2_with (go_at_call 34; (with_reducible refine (Hq1.out).mono ?_); rintro e w9 ⟨rfl, hb9⟩; have g5 := cell_grow hb9 g4; have Hb9 := Lib.hid (bthen Hb2.out hb9); clear hb9 Hq1)
                go_roundw
                case rel => exact ⟨k + 1, by omega, by go_num, Hb9.out⟩
                case measure => simp [intOf]; omega
        · have e1 := Hcell.out wo Hb.out 0 htl0
          have h00 : T[0] = 0 := by
            have h1 := HTL.out
            rw [← HT.out] at h1
            simp [h1]
          rw [h00] at e1
          obtain rfl : k = f.length := by omega
          clear hlt h00
          go_wp2_with fail
          go_ret
          exact ⟨rfl, Hc7.out _ Hb.out⟩
end Go.Proofs.Ytbbompmpecblgaa.LTops
end
section
/- ForestKinds. -/
namespace Go.Proofs.Ytbbompmpecblgaa.LKinds
open Go Go.RowKit Go.Proofs.Ytbbompmpecblgaa.Seq Go.Proofs.Ytbbompmpecblgaa.WS Go.Proofs.Ytbbompmpecblgaa.FS Go.Proofs.Ytbbompmpecblgaa.Mem Go.Proofs.Ytbbompmpecblgaa.Rd Go.Proofs.Ytbbompmpecblgaa.Shapes Go.Proofs.Ytbbompmpecblgaa.Word Go.Proofs.Ytbbompmpecblgaa.FFam Go.Proofs.Ytbbompmpecblgaa.LBnd Go.Proofs.Ytbbompmpecblgaa.OwnF
set_option linter.unusedVariables false
set_option linter.unusedSimpArgs false

theorem info_node : (Try.prog.info? 45).map (fun i => (i.zero, i.size, i.bytes)) = some (some (.agg #[.int .i64 0, .string ⟨#[]⟩, .string ⟨#[]⟩, .slice none 0 0, .int .i64 0, .slice none 0 0]), 6, 96) := by kernel_rfl
theorem pl_clone {ops : Array Oper} {rest : List Oper} {o : Oper} {a : Act} {Q : Exit → Act → World → Prop} (W : World) (hgd : o.guard = none) (s x : Operand)
    (ho : o.op = .call { callee := .builtin .append, args := #[s, x], argTypes := #[33, 33] }) (A : Option Addr) (c : Nat) (f : Fo) (hs : a.eval s = .slice (some ⟨W.heap.size, 0, none⟩) 0 0) (hx : a.eval x = .slice A f.length c)
    (hf : RdF W.heap.size W (.slice A f.length c) f) (h0 : 0 < f.length) (h1 : f.length ≤ 1000)
    (h : ∀ g cap w1, OwnF 45 W.heap.size w1 (.slice (some ⟨g, 0, none⟩) f.length cap) f → Below W.heap.size W w1 → W.heap.size ≤ g → g < w1.heap.size → wpList Try.prog ops Q rest (a.put o.dst (.slice (some ⟨g, 0, none⟩) f.length cap)) w1) :
    wpList Try.prog ops Q (o :: rest) a (W.alloc (.cells #[] 45)) := by
  obtain ⟨i0, hi, hz0, hz1, hz2⟩ := info_parts info_node
  obtain ⟨b, off, xs, rfl, hb, hl, hc, hn⟩ := rd_cells hf (Nat.le_refl _) h0
  have hown : (W.alloc (.cells #[] 45)).ownsRow W.heap.size 45 6 (.slice (some ⟨W.heap.size, 0, none⟩) 0 0) 0 [] := World.ownsRow_made W #[] 0 (Nat.le_refl _) (by simp [maxLen]) (by simp)
  have hone : ∀ u ∈ xs, u.oneCell' = true := by
    intro u hu
    obtain ⟨j, hj, rfl⟩ := List.mem_iff_getElem.1 hu
    have h6 := hn (j / 6) (by omega)
    refine h6.one _ ?_
    rw [List.mem_iff_getElem?]
    refine ⟨j % 6, ?_⟩
    rw [List.getElem?_take, if_pos (Nat.mod_lt _ (by decide)), List.getElem?_drop, show j / 6 * 6 + j % 6 = j by omega, List.getElem?_eq_getElem hj]
  refine wpList_append_own_at (W.alloc (.cells #[] 45)) hgd s x 33 ho W.heap.size 45 i0 _ 6 96 Try.underlying33 hi hz0 hz1 hz2 rfl (by decide) _ 0 [] hs hown ⟨b, off, none⟩ f.length c xs hx (by omega) (fun j u hj => ?_) hone (by simp only [maxLen]; omega) (by omega) (by simp) ?_
  · rw [Addr.add_lit]
    exact cell_alloc (hc j u hj) _
  · intro v' w' ho' hg' hnil hat
    have hO := OwnF.more (f := []) (g := f) (v' := v') hown (fun i hi => absurd hi (by simp)) hl (fun i hi => (hn i hi).keep (w' := W.alloc (.cells #[] 45)) (fun b hb _ => Below.heap_alloc _ _ _ hb) (by simp) (fun b hb _ e => by injection e with e; have : W.heap.size = b := e; omega)) (by simpa using ho') hg' (by
      rcases hat with e | e
      · exact .inl e
      · exact .inr e)
    rw [List.nil_append] at hO
    obtain ⟨g, cap, rfl, hge, hlt, _⟩ := hO.form h0
    refine h g cap w' hO ?_ hge hlt
    exact ((Off.alloc (fun b => W.heap.size ≤ b) W _).trans (Off.grown hg' (fun r hr => by injection hr with hr; have : W.heap.size = r := hr; omega))).toBelow (Nat.le_refl _) (fun b hb => hb)
set_option maxRecDepth 100000 in
set_option maxHeartbeats 8000000 in
theorem law_calls (w : World) (f : Fo) (v : Value) (h : RdF w.heap.size w v f) (a : Int) (ha : (Lit.int .u8 a).wf = true) (kd : Int) (hk : (Lit.int .i64 kd).wf = true) (pr : Int) (hp : (Lit.int .i64 pr).wf = true) :
    Calls Try.prog 11 #[v, .int .u8 a, .int .i64 kd, .int .i64 pr] w fun e w' => e = .returned (.bool true) ∧ Below w.heap.size w w' := by
  have hbn := bounded_calls w v f h
  obtain ⟨A0, c0, rfl, hl0, hc0, h'⟩ := h.form
  simp only [maxLen] at hc0
  have hrd := fun w' (hb : Below w.heap.size w w') => (h'.below nodeE_keeps (w' := w') hb (Nat.le_refl _)).mono nodeE_keeps hb.size
  cases hB : bndB f with
  | false =>
    rw [hB] at hbn
    have Hbn := Lib.hid hbn
    clear hbn h h' hrd ha hk hp
    go_enter Try.func11, Try.ntmps11
    go_wp2_with (first | (go_at_call 27; (with_reducible refine (Hbn.out).mono ?_); rintro e w5 ⟨rfl, rfl⟩) | (go_at_call 28; (with_reducible refine (LShown.shown_calls _).mono ?_); rintro e w6 ⟨rfl, hb6⟩; have Hb6 := Lib.hid hb6; clear hb6))
    go_ret
    exact ⟨rfl, Hb6.out⟩
  | true =>
    rw [hB] at hbn
    have hkm := bnd_kids hB
    have hmy := FMay.May_calls w _ f h hkm
    cases hm : mayB f with
    | false =>
      rw [hm] at hmy
      have Hbn := Lib.hid hbn; have Hmy := Lib.hid hmy
      clear hbn hmy h h' hrd hkm ha hk hp
      go_enter Try.func11, Try.ntmps11
      go_wp2_with (first | (go_at_call 27; (with_reducible refine (Hbn.out).mono ?_); rintro e w5 ⟨rfl, rfl⟩) | (go_at_call 32; (with_reducible refine (Hmy.out).mono ?_); rintro e w5 ⟨rfl, hb5⟩; have Hb5 := Lib.hid hb5; clear hb5) | (go_at_call 28; (with_reducible refine (LShown.shown_calls _).mono ?_); rintro e w6 ⟨rfl, hb6⟩; have Hb6 := Lib.hid hb6; clear hb6))
      go_ret
      exact ⟨rfl, bthen Hb5.out Hb6.out⟩
    | true =>
      rw [hm] at hmy
      have hlen := may_len hm
      simp only [Lit.wf, Bool.and_eq_true, decide_eq_true_eq] at ha
      have ha0 : (0 : Int) ≤ a := ha.1
      have ha1 : a ≤ 255 := ha.2
      obtain ⟨an, rfl⟩ : ∃ an : Nat, a = an := ⟨a.toNat, by omega⟩
      obtain ⟨n, hn⟩ : ∃ n, n = an % f.length := ⟨_, rfl⟩
      have hnl : n < f.length := by rw [hn]; exact Nat.mod_lt _ (by omega)
      have hm1 : (an : Int) % (f.length : Int) = (n : Int) := by rw [hn]; omega
      have hm2 : Int.tmod (an : Int) (f.length : Int) = (n : Int) := by rw [Int.tmod_eq_emod_of_nonneg (by omega)]; exact hm1
      have hl1 : 1 ≤ f.length := hlen.1
      have hl2 : f.length ≤ 60 := hlen.2
      have Hbn := Lib.hid hbn; have Hmy := Lib.hid hmy; have Hm := Lib.hid hm; have Hrd := Lib.hid hrd; have Hkm := Lib.hid hkm; have Hk := Lib.hid hk; have Hp := Lib.hid hp
      clear hbn hmy h h' hrd hkm hm hB hk hp hn hlen ha
      go_enter Try.func11, Try.ntmps11
      go_upto_region 4 with (first
        | (go_at_call 27; (with_reducible refine (Hbn.out).mono ?_); rintro e w5 ⟨rfl, rfl⟩)
        | (go_at_call 32; (with_reducible refine (Hmy.out).mono ?_); rintro e w5 ⟨rfl, hb5⟩; have Hb5 := Lib.hid hb5; clear hb5)
        | (go_at_call 28; (with_reducible refine (LShown.shown_calls _).mono ?_); rintro e w6 ⟨rfl, hb6⟩; have Hb6 := Lib.hid (bthen Hb5.out hb6); clear hb6))
      have hr6 := Hrd.out _ Hb6.out
      have Hr6 := Lib.hid hr6
      clear hr6 hm1 hm2
      go_upto_region 5 with (at_builtin; go_loud (refine pl_clone w6 rfl _ _ rfl A0 c0 f rfl rfl Hr6.out (by omega) (by omega) ?_; intro g1 cap1 w7 hO7 hb7 hge7 hlt7))
      have hf7 := hO7.form (by omega)
      obtain ⟨_, _, he7, _, _, hfz7, hca7, hcb7⟩ := hf7
      injection he7 with he7 _ he8
      injection he7 with he7
      injection he7 with he7 _ _
      subst he7 he8
      obtain ⟨cs7, va7, vk7, hcs7, hc7, _, _⟩ := hO7.ne_block hnl
      have k7 : w7.cell? ⟨g1, n * 6, none⟩ = some (.int .i64 f[n].kind) := hc7 0 _ (by rw [hcs7]; rfl)
      have k7f := hfz7 (n * 6)
      simp only [maxLen] at hcb7
      have HO7 := Lib.hid hO7; have Hb7 := Lib.hid hb7
      clear hO7 hb7 hcs7 hc7 hfz7 Hr6
      go_upto_region 6 with fail
      have hO8 := HO7.out.store (j := 0) (u := .int .i64 kd) (n := { f[n] with kind := kd }) hnl (by decide) (fun cs hcs => by
        obtain ⟨va, vk, rfl, r1, r2, r3, r4, r5, r6⟩ := hcs
        exact ⟨va, vk, rfl, r1, r2, r3, r4, Hk.out, r6⟩)
      obtain ⟨W8, hW8⟩ : ∃ W8, w7.setCell ⟨g1, n * 6, none⟩ (.int .i64 kd) = W8 := ⟨_, rfl⟩
      have hb8 : Below w6.heap.size w6 W8 := by rw [← hW8]; exact Hb7.out.setCell hge7 _
      rw [Nat.add_zero, hW8] at hO8
      rw [hW8]
      have hB8 := bthen Hb6.out hb8
      have hr8 := Hrd.out _ hB8
      have HO8 := Lib.hid hO8; have HB8 := Lib.hid hB8; have Hr8 := Lib.hid hr8
      clear hO8 hB8 hr8 hb8 hW8 k7 k7f
      go_upto_region 7 with (at_builtin; go_loud (refine pl_clone W8 rfl _ _ rfl A0 c0 f rfl rfl Hr8.out (by omega) (by omega) ?_; intro g2 cap2 w9 hO9 hb9 hge9 hlt9))
      have hf9 := hO9.form (by omega)
      obtain ⟨_, _, he7, _, _, hfz9, hca9, hcb9⟩ := hf9
      injection he7 with he7 _ he8
      injection he7 with he7
      injection he7 with he7 _ _
      subst he7 he8
      obtain ⟨cs9, va9, vk9, hcs9, hc9, _, _⟩ := hO9.ne_block hnl
      have k9 : w9.cell? ⟨g2, n * 6 + 4, none⟩ = some (.int .i64 f[n].parent) := hc9 4 _ (by rw [hcs9]; rfl)
      have k9f := hfz9 (n * 6 + 4)
      simp only [maxLen] at hcb9
      have HO9 := Lib.hid hO9; have Hb9 := Lib.hid hb9
      clear hO9 hb9 hcs9 hc9 hfz9 Hr8
      go_upto_region 8 with fail
      have hO10 := HO9.out.store (j := 4) (u := .int .i64 pr) (n := { f[n] with parent := pr }) hnl (by decide) (fun cs hcs => by
        obtain ⟨va, vk, rfl, r1, r2, r3, r4, r5, r6⟩ := hcs
        exact ⟨va, vk, rfl, r1, r2, r3, r4, r5, Hp.out⟩)
      obtain ⟨W10, hW10⟩ : ∃ W10, w9.setCell ⟨g2, n * 6 + 4, none⟩ (.int .i64 pr) = W10 := ⟨_, rfl⟩
      have hb10 : Below W8.heap.size W8 W10 := by rw [← hW10]; exact Hb9.out.setCell hge9 _
      rw [hW10] at hO10
      rw [hW10]
      have hB10 := bthen HB8.out hb10
      have hg10 := HO8.out.below hb10
      clear hW10 k9 k9f hb10
      have hnk := Hkm.out f[n] (List.getElem_mem _)
      have hset : ∀ p : Nd, p.kids.length ≤ 1000 → ∀ x ∈ f.set n p, x.kids.length ≤ 1000 := fun p hp' x hx => by
        rcases List.mem_or_eq_of_mem_set hx with hx | hx
        · exact Hkm.out x hx
        · rw [hx]; exact hp'
      have hmg := FMay.May_calls W10 _ _ hg10.rd (hset _ hnk)
      have hmh := fun w' (hb : Below W10.heap.size W10 w') => FMay.May_calls w' _ _ (hO10.below hb).rd (hset _ hnk)
      have hpi := parent_is Hm.out hnl pr
      rw [at_nat hnl] at hpi
      obtain ⟨b, o, _, _, _, _, hA0, hbl, _, _, _, _, g4, _⟩ := node_at (Hrd.out w (Below.refl _ _)) hnl
      subst hA0
      have hpc := fun w' (hb : Below w.heap.size w w') => cell_below hb g4 hbl
      have hnew := fun W => LShown.new1_calls W
      have hmn : ∀ W A c, RdF W.heap.size W (.slice A 1 c) FNew.newF → Calls Try.prog 32 #[.slice A 1 c] W fun e w' => e = .returned (.bool true) ∧ Below W.heap.size W w' := fun W A c hr => by
        have := FMay.May_calls W _ FNew.newF hr (by decide)
        rwa [show mayB FNew.newF = true from new_may] at this
      have HB10 := Lib.hid hB10; have Hpc := Lib.hid hpc; have Hnew := Lib.hid hnew; have Hmn := Lib.hid hmn
      have hkn : (kd < 0 ∨ 3 < kd ∨ ¬ (kd = 0 ↔ n = 0)) → mayB (f.set n { f[n] with kind := kd }) = false := fun hx => kind_not hnl _ hx
      obtain ⟨mg, hmgd⟩ : ∃ mg, mg = mayB (f.set n { f[n] with kind := kd }) := ⟨_, rfl⟩
      obtain ⟨mh, hmhd⟩ : ∃ mh, mh = mayB (f.set n { f[n] with parent := pr }) := ⟨_, rfl⟩
      rw [← hmgd] at hmg hkn
      rw [← hmhd] at hmh hpi
      generalize f[n].parent = par at *
      have Hmg := Lib.hid hmg; have Hmh := Lib.hid hmh
      clear hB10 hpc hnew hmn hmg hmh hmgd hmhd hO10 hg10 hset hnk hbl g4 HO8 HB8 Hb7 Hb9 HO7 HO9
      have hstep : (kd < 0 ∨ 3 < kd ∨ ¬ (kd = 0 ↔ n = 0)) ∨ (0 ≤ kd ∧ kd ≤ 3 ∧ (kd = 0 ↔ n = 0)) := by omega
      go_cut [8, 62] (fun a c wx => a = .bool false ∧ c = .bool false ∧ Below W10.heap.size W10 wx)
      case first =>
        by_cases hgood : 0 ≤ kd ∧ kd ≤ 3 ∧ (kd = 0 ↔ n = 0)
        · obtain ⟨q1, q2, q3⟩ := hgood
          have e3 : ((kd : Int) == 0) = ((n : Int) == 0) := by
            rw [Bool.eq_iff_iff, beq_iff_eq, beq_iff_eq, q3]; omega
          have q4 : ¬ kd < 0 := by omega
          have q5 : ¬ 3 < kd := by omega
          clear q3 hstep hkn Hmg
          go_wp2_with fail
          go_meet
          exact ⟨rfl, rfl, Below.refl _ _⟩
        · obtain rfl : mg = false := hkn (by omega)
          have hm0 : ∀ W', W' = W10 → True := fun _ _ => trivial
          clear hkn hm0
          by_cases q1 : kd < 0
          · go_wp2_with (go_at_call 32; (with_reducible refine (Hmg.out).mono ?_); rintro e w11 ⟨rfl, hb11⟩; have Hb11 := Lib.hid hb11; clear hb11)
            go_meet
            exact ⟨rfl, rfl, Hb11.out⟩
          · by_cases q2 : 3 < kd
            · go_wp2_with (go_at_call 32; (with_reducible refine (Hmg.out).mono ?_); rintro e w11 ⟨rfl, hb11⟩; have Hb11 := Lib.hid hb11; clear hb11)
              go_meet
              exact ⟨rfl, rfl, Hb11.out⟩
            · have e3 : ((kd : Int) == 0) = !((n : Int) == 0) := by
                rw [Bool.eq_iff_iff]
                simp
                omega
              clear hgood hstep
              go_wp2_with (go_at_call 32; (with_reducible refine (Hmg.out).mono ?_); rintro e w11 ⟨rfl, hb11⟩; have Hb11 := Lib.hid hb11; clear hb11)
              all_goals
                go_meet
                exact ⟨rfl, rfl, by first | exact Hb11.out | exact Below.refl _ _⟩
      case rest =>
        obtain ⟨rfl, rfl, hbx⟩ := hcut
        have p4 := Hpc.out wc (bthen HB10.out hbx)
        have hmh := Hmh.out
        have Hbx := Lib.hid hbx
        have hmh2 : ∀ W, (W = wc ∨ W = wc.drew) → Calls Try.prog 32 #[.slice (some ⟨g2, 0, none⟩) f.length cap2] W fun e w' => e = .returned (.bool mh) ∧ Below wc.heap.size wc w' := by
          rintro W (rfl | rfl)
          · exact Hmh.out _ Hbx.out
          · exact (Hmh.out _ Hbx.out.drew).mono (fun e w' h => ⟨h.1, ((Below.refl _ wc).drew).trans h.2⟩)
        have e5 : ((pr : Int) == par) = mh := by rw [hpi]; rfl
        have Hm2 := Lib.hid hmh2; have HPC := Lib.hid (fun w' (hb : Below wc.heap.size wc w') => Hpc.out w' (bthen HB10.out (bthen Hbx.out hb)))
        clear hmh hmh2 hbx hpi hstep hkn Hmg
        go_wp2_with fail
        go_region_held3 (fun w' => w'.cell? ⟨b, o + n * 6 + 4, none⟩ = some (.int .i64 par))
          (first | exact p4 | exact p5 | exact p6 | exact p7 | go_keep)
          (first
            | (go_at_call 32; (first | (with_reducible refine (Hm2.out _ (.inl rfl)).mono ?_) | (with_reducible refine (Hm2.out _ (.inr rfl)).mono ?_)); rintro e w12 ⟨rfl, hx12⟩; have p5 := HPC.out w12 hx12; have Hx12 := Lib.hid hx12; clear hx12 Hm2)
            | (go_at_call 36; (with_reducible refine (Hnew.out _).mono ?_); rintro e w13 ⟨A13, c13, rfl, hr13, hb13⟩; have hx13 := bthen Hx12.out hb13; have p6 := HPC.out w13 hx13; have Hx13 := Lib.hid hx13; have Hr13 := Lib.hid hr13; clear hr13 hb13 hx13)
            | (go_at_call 32; (with_reducible refine (Hmn.out _ _ _ Hr13.out).mono ?_); rintro e w14 ⟨rfl, hb14⟩; have hx14 := bthen Hx13.out hb14; have p7 := HPC.out w14 hx14; have Hx14 := Lib.hid hx14; clear hb14 hx14))
        go_wp2_with fail
        go_ret
        exact ⟨rfl, bthen HB10.out (bthen Hbx.out Hx14.out)⟩
end Go.Proofs.Ytbbompmpecblgaa.LKinds
end
