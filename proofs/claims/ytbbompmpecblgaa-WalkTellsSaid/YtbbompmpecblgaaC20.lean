/- Joined by a program: WkC, WkD, WkE, WkDemo, WkShown, WkBes. -/
import Derived.Test.YtbbompmpecblgaaC19
import Derived.Test.YtbbompmpecblgaaC09
import Derived.Test.YtbbompmpecblgaaC18
import Derived.Test.YtbbompmpecblgaaC14
section
/- walk: Order. -/
namespace Go.Proofs.Ytbbompmpecblgaa.Wk
open Go Go.RowKit Go.Shelf Go.Proofs.Ytbbompmpecblgaa.Seq Go.Proofs.Ytbbompmpecblgaa.WS Go.Proofs.Ytbbompmpecblgaa.FS Go.Proofs.Ytbbompmpecblgaa.Mem Go.Proofs.Ytbbompmpecblgaa.Rd Go.Proofs.Ytbbompmpecblgaa.Shapes Go.Proofs.Ytbbompmpecblgaa.Word Go.Proofs.Ytbbompmpecblgaa.FFam Go.Proofs.Ytbbompmpecblgaa.Thr
set_option linter.unusedVariables false
set_option linter.unusedSimpArgs false
attribute [local go_sem] Oper.semAt_some Thr.wide_fn Thr.wide_depth Thr.wide_round

noncomputable def orderL (f : Fo) (i : Int) : List Int := if isNode f i then order f i else []
def nodeErr (f : Fo) (i : Int) : Int := if isNode f i then 0 else 70
def OrderPost (f : Fo) (i : Int) (w : World) (e : Ending) (w' : World) : Prop := ∃ v, e = .returned (.tuple #[v, .int .i64 (nodeErr f i)]) ∧ RdL (intE .i64) 1 w'.heap.size w' v (orderL f i) ∧ Below w.heap.size w w'
theorem order_wf {f : Fo} (hm : mayB f = true) {i : Int} (hi : isNode f i = true) : ∀ x ∈ order f i, (Lit.int .i64 x).wf = true := by
  intro x hx
  have h := may_is hm
  have hn := ((order_mem h hi x).1 hx).1
  have := (node_iff f x).1 hn
  have := h.len
  simp only [Lit.wf, Bool.and_eq_true, decide_eq_true_eq]
  have e1 : IntKind.i64.min = -9223372036854775808 := rfl
  have e2 : IntKind.i64.max = 9223372036854775807 := rfl
  first | omega | (constructor <;> omega)
set_option maxRecDepth 100000 in
set_option maxHeartbeats 4000000 in
theorem Order_calls (w : World) (v : Value) (f : Fo) (h : RdF w.heap.size w v f) (hm : mayB f = true) (i : Int) (hwi : (Lit.int .i64 i).wf = true) : Calls Try.prog 42 #[v, .int .i64 i] w (OrderPost f i w) := by
  obtain ⟨A0, c0, rfl, hl0, hc0, h'⟩ := h.form
  simp only [maxLen] at hc0
  obtain ⟨w1, hw1⟩ : ∃ w1, w.alloc (.cells #[.slice none 0 0] 40) = w1 := ⟨_, rfl⟩
  have hb1 : Below w.heap.size w w1 := by rw [← hw1]; exact (Below.refl _ _).alloc (Nat.le_refl _) _
  have hq1 : w1.heap[w.heap.size]? = some (.cells #[.slice none 0 0] 40 (0, 0)) := by rw [← hw1]; exact World.alloc_heap_new _ _
  have hs1 : w1.heap.size = w.heap.size + 1 := by rw [← hw1]; simp
  have hr1 : RdF w.heap.size w1 (.slice A0 f.length c0) f := h'.below nodeE_keeps hb1 (Nat.le_refl _)
  have Hw1 := Lib.hid hw1
  clear hw1 h h'
  cases hn : isNode f i with
  | false =>
    have hh := has_no w1 A0 f.length c0 i (node_no hn)
    have hE : nodeErr f i = 70 := by unfold nodeErr; rw [hn]; rfl
    have hO : orderL f i = [] := by unfold orderL; rw [hn]; rfl
    have hc1 := cell_of hq1
    have hf1 := free_of hq1 0
    have Hh := Lib.hid hh; have HE := Lib.hid hE; have HO := Lib.hid hO; have Hb1 := Lib.hid hb1; have Hq1 := Lib.hid hq1
    clear hh hn hE hO hr1 hb1 hq1 hs1
    refine (callsIn_wide (n := 0)).1 ?_
    refine callsIn_of_wp_marks Try.func42 rfl trivial ?_ rfl
    simp only [Try.ntmps42, List.size_toArray, List.length_cons, List.length_nil, Nat.reduceAdd, Nat.reduceSub, Array.replicate_succ, Array.replicate_zero, List.push_toArray, List.append_toArray, List.nil_append, List.cons_append]
    gi_upto_region 1 with fail
    rw [Hw1.out]
    gi_wp2_with (gi_at_call 75; (refine (callsIn_wide.2 Hh.out).mono ?_); rintro e w5 ⟨rfl, rfl⟩)
    refine ⟨.tuple #[.slice none 0 0, .int .i64 70], by simp [results, Try.results42, go_sem, cell_of (set_one Hq1.out)], ?_⟩
    exact ⟨_, by rw [HE.out], by rw [HO.out]; exact RdL.nil, Hb1.out.setCell (Nat.le_refl _) _⟩
  | true =>
    obtain ⟨k, rfl, hk⟩ := node_nat hn
    have hh := has_yes w1 A0 f.length c0 k hk
    have Hh := Lib.hid hh
    clear hh
    refine (callsIn_wide (n := 0)).1 ?_
    refine callsIn_of_wp_marks Try.func42 rfl trivial ?_ rfl
    simp only [Try.ntmps42, List.size_toArray, List.length_cons, List.length_nil, Nat.reduceAdd, Nat.reduceSub, Array.replicate_succ, Array.replicate_zero, List.push_toArray, List.append_toArray, List.nil_append, List.cons_append]
    gi_upto_region 1 with fail
    rw [Hw1.out]
    gi_wp2_with (first | (gi_at_call 75; (refine (callsIn_wide.2 Hh.out).mono ?_); rintro e w5 ⟨rfl, rfl⟩) | (gi_at_call 76; (refine (callsIn_wide.2 (through_calls _ _ _ _ _)).mono ?_); rintro e w5 ⟨rfl, hw5⟩))
    have hz5 : w5.heap.size = w.heap.size + 3 := by rw [← hw5]; simp; omega
    have q0 : w5.heap[w.heap.size]? = some (.cells #[.slice none 0 0] 40 (0, 0)) := by rw [← hw5]; exact heap_old (heap_old hq1)
    have qf : w5.heap[w.heap.size + 1]? = some (.cells #[.slice A0 f.length c0] 33 (0, 0)) := by rw [← hw5, ← hs1]; exact heap_old (World.alloc_heap_new w1 _)
    have qi : w5.heap[w.heap.size + 1 + 1]? = some (.cells #[.int .i64 (k : Int)] 3 (0, 0)) := by
      rw [← hw5, ← hs1]
      have := World.alloc_heap_new (w1.alloc (.cells #[.slice A0 f.length c0] 33)) (.cells #[.int .i64 (k : Int)] 3)
      rwa [World.size_alloc] at this
    have hb15 : Below w1.heap.size w1 w5 := by rw [← hw5]; exact ((Below.refl _ _).alloc (Nat.le_refl _) _).alloc (by simp) _
    have hb5 : Below w.heap.size w w5 := bthen hb1 hb15
    have hr5 : RdF w.heap.size w5 (.slice A0 f.length c0) f := hr1.keep nodeE_keeps (hb15.mono (by omega)) (Nat.le_refl _)
    have hol := order_len (may_is hm).fam (may_is hm).climb hn
    have hl60 := (may_is hm).len
    have hwf := order_wf hm hn
    have hE : nodeErr f k = 0 := by unfold nodeErr; rw [hn]; rfl
    have hO : orderL f k = order f k := by unfold orderL; rw [hn]; rfl
    have HE := Lib.hid hE; have HO := Lib.hid hO; have Hwf := Lib.hid hwf; have Hb5 := Lib.hid hb5; have Hz5 := Lib.hid hz5
    clear hw5 hb1 hr1 Hw1 Hh hq1 hE hO hwf hb15 hb5
    refine wpIn_range rfl (enters_of Try.func96 (by kernel_rfl) rfl) (through_seq f hm k hn hwi w.heap.size (w.heap.size + 1 + 1) (w.heap.size + 1) (by omega) (by omega) (.slice A0 f.length c0))
      (fun W ho => ⟨ho.keep qi (fun h => h), ho.keep qf (fun h => h), hr5.keep nodeE_keeps (ho.toBelow (by omega) (fun b hb => hb.elim)) (Nat.le_refl _), by have := ho.size; omega⟩)
      (fun m X W => ∃ sv, W.heap[w.heap.size]? = some (.cells #[sv] 40 (0, 0)) ∧ W.ownsRow w.heap.size 3 1 sv (((order f k).take m).map (Value.int .i64)).length (((order f k).take m).map (Value.int .i64)) ∧ (∀ b, X b ↔ (b = w.heap.size ∨ sv.ownBlock = some b)) ∧ (∀ g, sv.ownBlock = some g → g ≠ w.heap.size))
      (fun c m X W => False) ?hI (fun c => ⟨fun _ _ _ _ h _ => h, fun _ _ _ _ h _ => h.elim⟩) (fun b => b = w.heap.size) (fun b hb => ⟨fun h => h, fun h => by omega⟩)
      ⟨_, q0, by rw [List.take_zero]; exact World.ownsRow_nil _ _ _ _, fun b => by simp [Value.ownBlock], fun g hg => by simp [Value.ownBlock] at hg⟩
      (fun b h => by rcases h with h | h | h | h; exact h.elim; omega; omega; omega)
      (fun m => { tmps := #[.slice A0 f.length c0, .int .i64 (k : Int), undef, undef, .pointer (some ⟨w.heap.size, 0, none⟩), .int .i64 0, ((order f k).map (Value.int .i64)).getD m undef, .slice A0 f.length c0, .int .i64 (k : Int), .int .i64 0, .int .i64 0, .bool false, undef, .slice A0 f.length c0, .int .i64 (k : Int),
        .func (.func 96) #[] #[.pointer (some ⟨w.heap.size + 1 + 1, 0, none⟩), .pointer (some ⟨w.heap.size + 1, 0, none⟩)], ((order f k).map (Value.int .i64)).getD m undef, undef, undef, undef, undef, undef], defers := [] })
      ?assign ?body ?done ?stop
    case hI =>
      refine ⟨?_, ?_⟩
      · rintro m X W W' ⟨sv, h1, h2, h3, h4⟩ ho
        exact ⟨sv, ho.keep h1 (fun h => h ((h3 _).2 (.inl rfl))), own_keep h2 (fun b hb => ho.block b (h2.lt b hb).2 (fun h => h ((h3 _).2 (.inr hb)))), h3, h4⟩
      · rintro m X W b ⟨sv, h1, h2, h3, h4⟩ hb
        rcases (h3 b).1 hb with rfl | hb
        · exact lt_heap h1
        · exact (h2.lt b hb).2
    case assign =>
      intro l m hm' W K hK
      rw [show ((order f k).map (Value.int .i64)).getD m undef = ((order f k).map (Value.int .i64))[m] by rw [List.getD_eq_getElem?_getD, List.getElem?_eq_getElem hm']; rfl] at hK
      generalize ((order f k).map (Value.int .i64))[m] = x at *
      gi_wp2
      exact hK
    case body =>
      rintro l m hm' X' W' ⟨sv, h1, h2, h3, h4⟩
      have hmo : m < (order f k).length := by simpa using hm'
      rw [show ((order f k).map (Value.int .i64)).getD m undef = .int .i64 (order f k)[m] by rw [List.getD_eq_getElem?_getD, List.getElem?_eq_getElem hm']; simp]
      have hs6 := lt_heap h1
      obtain ⟨A5, n5, rfl, _, _⟩ := own_form h2
      have hc5 := cell_of h1
      have hf5 := free_of h1 0
      have hnx : (order f k).take (m + 1) = (order f k).take m ++ [(order f k)[m]] := List.take_succ_eq_append_getElem hmo
      have hll : (((order f k).take m).map (Value.int .i64)).length ≤ 200 := by rw [List.length_map, List.length_take]; omega
      obtain ⟨xs, hxs⟩ : ∃ xs, xs = ((order f k).take m).map (Value.int .i64) := ⟨_, rfl⟩
      rw [← hxs] at h1 h2 h3 h4 hc5 hll
      have hofX : ∀ (w1 : World), W'.grownBy w1 (Value.slice A5 xs.length n5).ownBlock → w1.heap[w.heap.size]? = W'.heap[w.heap.size]? := fun w1 hg => hg.block _ hs6 (fun e => h4 _ e.symm rfl)
      have hb6 : w.heap.size ≤ W'.heap.size := by omega
      have H2 := Lib.hid h2; have H3 := Lib.hid h3; have H4 := Lib.hid h4; have Hnx := Lib.hid hnx; have HofX := Lib.hid hofX; have H1 := Lib.hid h1; have Hxs := Lib.hid hxs
      clear h1 h2 h3 h4 hnx hofX hxs q0 qf qi hr5
      generalize (order f k)[m] = y at *
      gi_wp2_with (gi_at_builtin; ((refine in_append W' w.heap.size rfl _ _ 40 3 (.int .i64 0) 8 rfl Try.underlying40 info_int rfl (.slice A5 xs.length n5) xs (.int .i64 y) rfl rfl rfl H2.out hb6 (by omega) (by simp only [maxLen]; omega) ?_); rintro v1 w1' hown hgrow ⟨g1, cap1, rfl, hat⟩; have hS1 := HofX.out w1' hgrow; have hrow1 := hS1.trans H1.out; have hr1 := cell_of hrow1; have hr2 := free_of hrow1 0; have Hown := Lib.hid hown; have Hgrow := Lib.hid hgrow; have Hat := Lib.hid hat; have Hrow1 := Lib.hid hrow1; clear hown hgrow hat hS1 hrow1))
      have hg1S : g1 ≠ w.heap.size := by
        rcases Hat.out with h | h
        · exact H4.out g1 h
        · omega
      refine ⟨fun b => b = w.heap.size ∨ b = g1, ?_, ?_, ⟨_, set_one Hrow1.out, ?_, ?_, ?_⟩⟩
      · rintro b (rfl | rfl)
        · exact .inl ((H3.out _).2 (.inl rfl))
        · rcases Hat.out with h | h
          · exact .inl ((H3.out _).2 (.inr h))
          · exact .inr h
      · exact (Off.grown Hgrow.out (fun r hr => (H3.out r).2 (.inr hr))).trans (Off.setCell _ _ _ ((H3.out w.heap.size).2 (.inl rfl)))
      · rw [Hnx.out, List.map_append, List.map_cons, List.map_nil, ← Hxs.out]
        have ho := Hown.out
        rw [show (xs ++ [Value.int .i64 y]).length = xs.length + 1 by simp] at ho ⊢
        refine own_keep ho (fun b hb => set_other (fun e => ?_))
        simp only [Value.ownBlock] at hb
        injection hb with hb
        exact hg1S (hb.trans e)
      · intro b
        simp only [Value.ownBlock]
        constructor
        · rintro (h | h)
          · exact .inl h
          · exact .inr (by rw [h])
        · rintro (h | h)
          · exact .inl h
          · right; injection h with h; exact h.symm
      · intro g' hg'
        simp only [Value.ownBlock] at hg'
        injection hg' with hg'
        exact fun e => hg1S (hg'.trans e)
    case done =>
      rintro D X' W hD hXD hgr hof ⟨sv, h1, h2, h3, h4⟩ hK
      have hlen : ((order f k).map (Value.int .i64)).length = (order f k).length := by simp
      rw [hlen, List.take_of_length_le (Nat.le_refl _), hlen] at h2
      have hc2 := cell_of h1
      have hf2 := free_of h1 0
      have hDs : D ≠ w.heap.size := by omega
      obtain ⟨A5, n5, rfl, _, _⟩ := own_form h2
      have H1 := Lib.hid h1; have H2 := Lib.hid h2; have H3 := Lib.hid h3; have H4 := Lib.hid h4; have HK := Lib.hid hK; have Hof := Lib.hid hof
      clear h1 h2 h3 h4 hK hof hgr q0 qf qi hr5
      gi_wp2
      refine ⟨by simp, .inl ⟨_, _, rfl, run_takeDeferred ((set_other hDs).trans HK.out), ?_⟩⟩
      obtain ⟨WF, hWF⟩ : ∃ WF, (W.setCell ⟨w.heap.size, 0, none⟩ (.slice A5 (order f k).length n5)).putObj D (.deferred none) = WF := ⟨_, rfl⟩
      have hrowF : WF.heap[w.heap.size]? = some (.cells #[.slice A5 (order f k).length n5] 40 (0, 0)) := by rw [← hWF]; exact (put_other (fun e => hDs e.symm)).trans (set_one H1.out)
      have hownF : WF.ownsRow w.heap.size 3 1 (.slice A5 (order f k).length n5) (order f k).length ((order f k).map (Value.int .i64)) := by
        rw [← hWF]
        exact own_keep H2.out (fun b hb => (put_other (fun (e : b = D) => hXD ((H3.out D).2 (.inr (e ▸ hb))))).trans (set_other (H4.out b hb)))
      have hbF : Below w.heap.size w WF := by
        rw [← hWF]
        have b1 := (Hb5.out.trans (Hof.out.toBelow (B := w.heap.size) (by omega) (fun b h => by rcases h with h | h; omega; exact h.elim))).setCell (p := ⟨w.heap.size, 0, none⟩) (Nat.le_refl _) (.slice A5 (order f k).length n5)
        exact b1.trans (Off.toBelow (Y := fun b => b = D) (Off.putObj _ _ _ rfl) b1.size (fun b h => by omega))
      have hcF := cell_of hrowF
      rw [hWF]
      refine ⟨.tuple #[.slice A5 (order f k).length n5, .int .i64 0], by simp [results, Try.results42, hcF, go_sem], _, by rw [HE.out], ?_, hbF⟩
      rw [HO.out]
      exact RdL.of_own (xs := (order f k).map (Value.int .i64)) hownF rfl (fun g hg => (hownF.lt g hg).2) (fun j hj => ⟨by rw [Nat.mul_one, List.drop_eq_getElem_cons (by simpa using hj)]; simp, Hwf.out _ (List.getElem_mem hj)⟩)
    case stop => exact fun D c k X' W _ _ _ _ _ h _ => h.elim
end Go.Proofs.Ytbbompmpecblgaa.Wk
end
section
/- walk: Content. -/
namespace Go.Proofs.Ytbbompmpecblgaa.Wk
open Go Go.RowKit Go.Shelf Go.Proofs.Ytbbompmpecblgaa.Seq Go.Proofs.Ytbbompmpecblgaa.SeqR Go.Proofs.Ytbbompmpecblgaa.WS Go.Proofs.Ytbbompmpecblgaa.FS Go.Proofs.Ytbbompmpecblgaa.Mem Go.Proofs.Ytbbompmpecblgaa.Rd Go.Proofs.Ytbbompmpecblgaa.Shapes Go.Proofs.Ytbbompmpecblgaa.Word Go.Proofs.Ytbbompmpecblgaa.FFam Go.Proofs.Ytbbompmpecblgaa.Thr Go.Proofs.Ytbbompmpecblgaa.Build
set_option linter.unusedVariables false
set_option linter.unusedSimpArgs false
attribute [local go_sem] Oper.semAt_some Thr.wide_fn Thr.wide_depth Thr.wide_round

theorem String_k (B b : Nat) (l : List UInt8) (w : World) (h : Lib.IsBuilder 91 5 B b (Lib.byteCells l) w) (hBw : B ≤ w.heap.size) :
    Calls Try.prog 73 #[.pointer (some ⟨b, 0, none⟩)] w fun e w' => e = .returned (.string ⟨l.toArray⟩) ∧ Below B w w' ∧ Lib.OthersKept 5 (some b) w w' :=
  (Any.Builder_String_any_k ShelfB.lays169 ShelfB.extra B b l w (Lib.IsBuilderF.of h) hBw).mono (fun e w' h => ⟨h.1, h.2.2⟩)
theorem own_text {f : Fo} (hm : mayB f = true) {k : Nat} (hk : k < f.length) (h2 : (at_ f (k : Int)).kind = 2) : (at_ f (k : Int)).text.size ≤ 60 := by
  have hp := ((may_is hm).node k hk).1
  rw [Lib.size_eq]
  unfold plainB at hp
  simp [h2] at hp
  exact text_len hp.1.1.2
theorem own_len {f : Fo} (hm : mayB f = true) {k : Int} (hk : isNode f k = true) : (ownT f k).length ≤ 60 := by
  obtain ⟨x, rfl, hx⟩ := node_nat hk
  unfold ownT
  split
  · have := own_text hm hx (by assumption)
    rwa [Lib.size_eq] at this
  · simp
theorem flat_len {f : Fo} (hm : mayB f = true) : ∀ (l : List Int), (∀ k ∈ l, isNode f k = true) → (l.flatMap (ownT f)).length ≤ l.length * 60
  | [], _ => by simp
  | k :: l, h => by
    rw [List.flatMap_cons, List.length_append, List.length_cons]
    have := own_len hm (h k (by simp))
    have := flat_len hm l (fun x hx => h x (by simp [hx]))
    omega
noncomputable def contentO (f : Fo) (i : Int) : List UInt8 := if isNode f i then contentL f i else []
def ContentPost (f : Fo) (i : Int) (w : World) (e : Ending) (w' : World) : Prop := e = .returned (.tuple #[.string ⟨(contentO f i).toArray⟩, .int .i64 (nodeErr f i)]) ∧ Below w.heap.size w w'
def conI (S : Nat) (fv : Value) (f : Fo) (i : Int) (m : Nat) (X : Nat → Prop) (W : World) : Prop :=
  ∃ v, IsB (S + 1) (S + 1) (((order f i).take m).flatMap (ownT f)) v W ∧ RdF (S + 1) W fv f ∧ W.heap[S]? = some (.cells #[fv] 33 (0, 0)) ∧ (∀ b, X b ↔ (b = S + 1 ∨ v.ownBlock = some b))
theorem conI_foot (S : Nat) (fv : Value) (f : Fo) (i : Int) : FootR (fun b => b < S + 1) (conI S fv f i) := by
  refine ⟨?_, ?_⟩
  · rintro m X W W' ⟨v, h1, h2, h3, h4⟩ ho
    have hl := h1.lt
    exact ⟨v, h1.keep (ho.block _ hl (fun h => h.1 ((h4 _).2 (.inl rfl)))) (fun g hg => ho.block g (h1.row.lt g hg).2 (fun h => h.1 ((h4 _).2 (.inr hg)))),
      h2.keep nodeE_keeps (ho.toBelow (by omega) (fun b hb => by have : ¬ b < S + 1 := hb.2; omega)) (Nat.le_refl _), ho.keep h3 (fun h => h.2 (by show S < S + 1; omega)), h4⟩
  · rintro m X W b ⟨v, h1, h2, h3, h4⟩ hb
    rcases (h4 b).1 hb with rfl | hb
    · exact h1.lt
    · exact (h1.row.lt b hb).2
set_option maxRecDepth 100000 in
set_option maxHeartbeats 4000000 in
theorem Content_calls (w : World) (v : Value) (f : Fo) (h : RdF w.heap.size w v f) (hm : mayB f = true) (i : Int) (hwi : (Lit.int .i64 i).wf = true) : Calls Try.prog 40 #[v, .int .i64 i] w (ContentPost f i w) := by
  obtain ⟨A0, c0, rfl, hl0, hc0, h'⟩ := h.form
  simp only [maxLen] at hc0
  obtain ⟨w1, hw1⟩ : ∃ w1, w.alloc (.cells #[.slice A0 f.length c0] 33) = w1 := ⟨_, rfl⟩
  have hb1 : Below w.heap.size w w1 := by rw [← hw1]; exact (Below.refl _ _).alloc (Nat.le_refl _) _
  have hq1 : w1.heap[w.heap.size]? = some (.cells #[.slice A0 f.length c0] 33 (0, 0)) := by rw [← hw1]; exact World.alloc_heap_new _ _
  have hs1 : w1.heap.size = w.heap.size + 1 := by rw [← hw1]; simp
  have hr1 : RdF w.heap.size w1 (.slice A0 f.length c0) f := h'.below nodeE_keeps hb1 (Nat.le_refl _)
  have hc1 := cell_of hq1
  have Hw1 := Lib.hid hw1
  clear hw1 h h'
  cases hn : isNode f i with
  | false =>
    have hh := has_no w1 A0 f.length c0 i (node_no hn)
    have hE : nodeErr f i = 70 := by unfold nodeErr; rw [hn]; rfl
    have hO : contentO f i = [] := by unfold contentO; rw [hn]; rfl
    have Hh := Lib.hid hh; have HE := Lib.hid hE; have HO := Lib.hid hO; have Hb1 := Lib.hid hb1
    clear hh hn hE hO hr1 hb1 hq1 hs1
    refine (callsIn_wide (n := 0)).1 ?_
    refine callsIn_of_wp_marks Try.func40 rfl trivial ?_ rfl
    simp only [Try.ntmps40, List.size_toArray, List.length_cons, List.length_nil, Nat.reduceAdd, Nat.reduceSub, Array.replicate_succ, Array.replicate_zero, List.push_toArray, List.append_toArray, List.nil_append, List.cons_append]
    gi_upto_region 1 with fail
    rw [Hw1.out]
    gi_wp2_with (gi_at_call 75; (refine (callsIn_wide.2 Hh.out).mono ?_); rintro e w5 ⟨rfl, rfl⟩)
    refine ⟨.tuple #[.string ⟨#[]⟩, .int .i64 70], by simp [results, Try.results40, go_sem], ?_⟩
    exact ⟨by rw [HE.out, HO.out], Hb1.out⟩
  | true =>
    obtain ⟨k, rfl, hk⟩ := node_nat hn
    have hh := has_yes w1 A0 f.length c0 k hk
    have Hh := Lib.hid hh
    clear hh
    obtain ⟨S, hS⟩ : ∃ S, S = w.heap.size := ⟨_, rfl⟩
    obtain ⟨w2, hw2⟩ : ∃ w2, w1.alloc (.cells #[.pointer none, .slice none 0 0] 91) = w2 := ⟨_, rfl⟩
    have hc2 : w2.cell? ⟨w.heap.size, 0, none⟩ = some (.slice A0 f.length c0) := by rw [← hw2]; exact cell_of (heap_old hq1)
    have hs2 : w2.heap.size = w.heap.size + 2 := by rw [← hw2]; simp; omega
    have hB2 : w2.heap[w.heap.size + 1]? = some (.cells #[.pointer none, .slice none 0 0] 91 (0, 0)) := by rw [← hw2, ← hs1]; exact World.alloc_heap_new _ _
    have hq2 : w2.heap[w.heap.size]? = some (.cells #[.slice A0 f.length c0] 33 (0, 0)) := by rw [← hw2]; exact heap_old hq1
    have hb2 : Below w.heap.size w w2 := by rw [← hw2]; exact hb1.alloc hb1.size _
    have Hw2 := Lib.hid hw2; have Hs1 := Lib.hid hs1; have Hq1 := Lib.hid hq1
    clear hw2 hq1
    refine (callsIn_wide (n := 0)).1 ?_
    refine callsIn_of_wp_marks Try.func40 rfl trivial ?_ rfl
    simp only [Try.ntmps40, List.size_toArray, List.length_cons, List.length_nil, Nat.reduceAdd, Nat.reduceSub, Array.replicate_succ, Array.replicate_zero, List.push_toArray, List.append_toArray, List.nil_append, List.cons_append]
    gi_upto_region 1 with fail
    rw [Hw1.out]
    gi_upto_region 5 with (gi_at_call 75; (refine (callsIn_wide.2 Hh.out).mono ?_); rintro e w5 ⟨rfl, rfl⟩)
    rw [Hw2.out]
    gi_wp2_with (gi_at_call 76; (refine (callsIn_wide.2 (through_calls _ _ _ _ _)).mono ?_); rintro e w5 ⟨rfl, hw5⟩)
    have hz5 : w5.heap.size = w.heap.size + 4 := by rw [← hw5]; simp; omega
    have q0 : w5.heap[w.heap.size]? = some (.cells #[.slice A0 f.length c0] 33 (0, 0)) := by rw [← hw5]; exact heap_old (heap_old hq2)
    have qB : w5.heap[w.heap.size + 1]? = some (.cells #[.pointer none, .slice none 0 0] 91 (0, 0)) := by rw [← hw5]; exact heap_old (heap_old hB2)
    have qf : w5.heap[w.heap.size + 2]? = some (.cells #[.slice A0 f.length c0] 33 (0, 0)) := by rw [← hw5, ← hs2]; exact heap_old (World.alloc_heap_new w2 _)
    have qi : w5.heap[w.heap.size + 2 + 1]? = some (.cells #[.int .i64 (k : Int)] 3 (0, 0)) := by
      rw [← hw5, ← hs2]
      have := World.alloc_heap_new (w2.alloc (.cells #[.slice A0 f.length c0] 33)) (.cells #[.int .i64 (k : Int)] 3)
      rwa [World.size_alloc] at this
    have hb25 : Below w2.heap.size w2 w5 := by rw [← hw5]; exact ((Below.refl _ _).alloc (Nat.le_refl _) _).alloc (by simp) _
    have hb5 : Below w.heap.size w w5 := bthen hb2 hb25
    have hr2 : RdF w.heap.size w2 (.slice A0 f.length c0) f := by rw [← Hw2.out]; exact hr1.keep nodeE_keeps ((Below.refl _ _).alloc (by omega) _) (Nat.le_refl _)
    have hr5 : RdF (w.heap.size + 1) w5 (.slice A0 f.length c0) f := (hr2.keep nodeE_keeps (hb25.mono (by omega)) (Nat.le_refl _)).mono nodeE_keeps (by omega)
    have hol := order_len (may_is hm).fam (may_is hm).climb hn
    have hl60 := (may_is hm).len
    have hE : nodeErr f k = 0 := by unfold nodeErr; rw [hn]; rfl
    have hO : contentO f k = contentL f k := by unfold contentO; rw [hn]; rfl
    have hall : ∀ x ∈ order f k, isNode f x = true := fun x hx => ((order_mem (may_is hm) hn x).1 hx).1
    have HE := Lib.hid hE; have HO := Lib.hid hO; have Hall := Lib.hid hall; have Hb5 := Lib.hid hb5; have Hz5 := Lib.hid hz5
    clear hw5 hb1 hr1 Hw1 Hh hE hO hall hb25 hb5 hb2 hr2 hq2 hc2 hB2 Hw2 Hq1 Hs1
    have hsz2 : w2.heap.size = w.heap.size + 2 := hs2

    refine wpIn_rangeR rfl (enters_of Try.func96 (by kernel_rfl) rfl) (through_seqR f hm k hn hwi (w.heap.size + 1) (w.heap.size + 2 + 1) (w.heap.size + 2) (by omega) (by omega) (.slice A0 f.length c0))
      (fun W ho => ⟨ho.keep qi (fun h => h), ho.keep qf (fun h => h), hr5.keep nodeE_keeps (ho.toBelow (by omega) (fun b hb => hb.elim)) (Nat.le_refl _), by have := ho.size; omega⟩)
      (conI w.heap.size (.slice A0 f.length c0) f k) (fun c m X W => False) (conI_foot _ _ _ _) (fun c => ⟨fun _ _ _ _ h _ => h, fun _ _ _ _ h _ => h.elim⟩) (fun b => b = w.heap.size + 1)
      (fun b hb => ⟨fun h => h, fun h => by omega⟩)
      ⟨.slice none 0 0, ⟨.inl qB, by rw [List.take_zero]; exact World.ownsRow_nil _ _ _ _, fun h => by simp [Value.ownBlock] at h, Nat.le_refl _⟩, hr5, q0, fun b => by simp [Value.ownBlock]⟩
      (fun b h => by rcases h with h | h | h | h; exact h.elim; omega; omega; omega) (fun b hb => by have : b < w.heap.size + 1 := hb; omega)
      (fun m => { tmps := #[.slice A0 f.length c0, .int .i64 (k : Int), .pointer (some ⟨w.heap.size, 0, none⟩), undef, .string ⟨#[]⟩, .int .i64 0, .int .i64 0, .pointer (some ⟨w.heap.size + 1, 0, none⟩), ((order f k).map (Value.int .i64)).getD m undef, .slice A0 f.length c0, .int .i64 (k : Int), .int .i64 0, .int .i64 0, .bool false, undef, .slice A0 f.length c0, .int .i64 (k : Int),
        .func (.func 96) #[] #[.pointer (some ⟨w.heap.size + 2 + 1, 0, none⟩), .pointer (some ⟨w.heap.size + 2, 0, none⟩)], ((order f k).map (Value.int .i64)).getD m undef, undef, undef, undef, undef, undef, undef, undef, undef, undef, undef, undef, undef, undef], defers := [] })
      ?assign ?body ?done ?stop
    case assign =>
      intro l m hm' W K hK
      rw [show ((order f k).map (Value.int .i64)).getD m undef = ((order f k).map (Value.int .i64))[m] by rw [List.getD_eq_getElem?_getD, List.getElem?_eq_getElem hm']; rfl] at hK
      generalize ((order f k).map (Value.int .i64))[m] = x at *
      gi_wp2
      exact hK
    case body =>
      rintro l m hm' X' W' ⟨sv, h1, h2, h3, h4⟩
      have hmo : m < (order f k).length := by simpa using hm'
      rw [show ((order f k).map (Value.int .i64)).getD m undef = .int .i64 (order f k)[m] by rw [List.getD_eq_getElem?_getD, List.getElem?_eq_getElem hm']; simp]
      have hnx : (order f k).take (m + 1) = (order f k).take m ++ [(order f k)[m]] := List.take_succ_eq_append_getElem hmo
      have hcon : ((order f k).take (m + 1)).flatMap (ownT f) = ((order f k).take m).flatMap (ownT f) ++ ownT f (order f k)[m] := by rw [hnx, List.flatMap_append]; simp
      obtain ⟨x, hx, hxl⟩ := node_nat (Hall.out _ (List.getElem_mem hmo))
      rw [hx] at hcon ⊢
      have hfl := flat_len hm ((order f k).take m) (fun y hy => Hall.out y (List.mem_of_mem_take hy))
      rw [List.length_take] at hfl
      have hlen : (((order f k).take m).flatMap (ownT f)).length ≤ 3600 := by omega
      have hc5 := cell_of h3
      obtain ⟨b, o, Aa, ca, Ak, ck, e0, hbl, g0, g1, g2, g3, g4, g5, ra, rk, la, lca, lk, lck, m1, m2, m3, m4⟩ := node_at h2 hxl
      subst e0
      rw [← at_nat hxl] at g0 g2
      have hxlt : (x : Int) < (f.length : Int) := by omega
      have hd0 : decide ((x : Int) < 0) = false := by simp
      have H1 := Lib.hid h1; have H2 := Lib.hid h2; have H3 := Lib.hid h3; have H4 := Lib.hid h4; have Hcon := Lib.hid hcon
      clear h2 h3 h4 hnx hcon q0 qf qi qB hr5 ra rk la lca lk lck m1 m2 m3 m4 g1 g3 g4 g5 hfl hx
      have hlt1 := h1.lt
      obtain ⟨L, hL⟩ : ∃ L, L = ((order f k).take m).flatMap (ownT f) := ⟨_, rfl⟩
      by_cases hk2 : (at_ f (x : Int)).kind = 2
      · have hts := own_text hm hxl hk2
        have hwr := WriteString_calls (w.heap.size + 1) (w.heap.size + 1) _ sv (at_ f (x : Int)).text W' h1 (by omega)
        have how : ownT f (x : Int) = (at_ f (x : Int)).text.data.toList := by unfold ownT; rw [if_pos hk2]
        rw [hk2] at g0
        have Hwr := Lib.hid hwr; have How := Lib.hid how
        clear hwr how h1 hk2
        gi_wp2_with (gi_at_call 71; (refine (callsIn_wide.2 Hwr.out).mono ?_); rintro e w6 ⟨rfl, sv', k1, k2, k3⟩)
        have hown' : ∀ b, sv'.ownBlock = some b → w.heap.size + 1 ≤ b := fun b hb => (k1.row.lt b hb).1
        have hX : ∀ b, X' b → w.heap.size + 1 ≤ b := fun b hb => by
          rcases (H4.out b).1 hb with rfl | hb
          · exact Nat.le_refl _
          · exact (H1.out.row.lt b hb).1
        have hoX : Off X' W' w6 := k2.mono (fun b _ hb => (H4.out b).2 hb)
        refine ⟨fun b => b = w.heap.size + 1 ∨ sv'.ownBlock = some b, ?_, hoX, sv', ?_, H2.out.keep nodeE_keeps (hoX.toBelow (by omega) hX) (Nat.le_refl _), hoX.keep H3.out (fun h => by have := hX _ h; omega), fun b => Iff.rfl⟩
        · rintro b (rfl | hb)
          · exact .inl ((H4.out _).2 (.inl rfl))
          · rcases k3 with k3 | ⟨g, k3, k4⟩
            · exact .inl ((H4.out _).2 (.inr (by rw [← k3]; exact hb)))
            · rw [k3] at hb; injection hb with hb; exact .inr (hb ▸ k4)
        · rw [Hcon.out, How.out]; exact k1
      · have how : ownT f (x : Int) = [] := by unfold ownT; rw [if_neg hk2]
        have hkd : decide ((at_ f (x : Int)).kind = 2) = false := by simpa using hk2
        have How := Lib.hid how
        clear how h1
        gi_wp2
        exact ⟨X', Grew.refl _ _, Off.refl _ _, sv, by rw [Hcon.out, How.out, List.append_nil]; exact H1.out, H2.out, H3.out, H4.out⟩
    case done =>
      rintro D X' W hD hXD hgr hof ⟨sv, h1, h2, h3, h4⟩ hK
      rw [List.length_map, List.take_of_length_le (Nat.le_refl _)] at h1
      have hst := String_k (w.heap.size + 1) (w.heap.size + 1) _ W h1.lib (by have := h1.lt; omega)
      have Hst := Lib.hid hst; have HK := Lib.hid hK; have Hof := Lib.hid hof
      clear h1 h2 h3 h4 hK hof hgr q0 qf qi qB hr5 hst
      gi_wp2_with (gi_at_call 73; (refine (callsIn_wide.2 Hst.out).mono ?_); rintro e w6 ⟨rfl, hb6, ho6⟩)
      have hK6 : w6.heap[D]? = some (.deferred (some [])) := ho6 D _ HK.out (fun h => by injection h with h; omega) (fun c fz h => by cases h)
      refine ⟨by simp, .inl ⟨_, _, rfl, run_takeDeferred hK6, ?_⟩⟩
      refine ⟨.tuple #[.string ⟨(contentL f k).toArray⟩, .int .i64 0], by simp [results, Try.results40, go_sem]; rfl, by rw [HE.out, HO.out], ?_⟩
      have b1 := (Hb5.out.trans (Hof.out.toBelow (B := w.heap.size) (by omega) (fun b h => by rcases h with h | h; omega; exact h.elim))).trans (hb6.mono (by omega))
      exact b1.trans (Off.toBelow (Y := fun b => b = D) (Off.putObj _ _ _ rfl) b1.size (fun b h => by omega))
    case stop => exact fun D c k X' W _ _ _ _ _ h _ => h.elim
end Go.Proofs.Ytbbompmpecblgaa.Wk
end
section
/- walk: ById. -/
namespace Go.Proofs.Ytbbompmpecblgaa.Wk
open Go Go.RowKit Go.Shelf Go.Proofs.Ytbbompmpecblgaa.Seq Go.Proofs.Ytbbompmpecblgaa.SeqR Go.Proofs.Ytbbompmpecblgaa.WS Go.Proofs.Ytbbompmpecblgaa.FS Go.Proofs.Ytbbompmpecblgaa.Mem Go.Proofs.Ytbbompmpecblgaa.Rd Go.Proofs.Ytbbompmpecblgaa.Shapes Go.Proofs.Ytbbompmpecblgaa.Word Go.Proofs.Ytbbompmpecblgaa.FFam Go.Proofs.Ytbbompmpecblgaa.Thr
set_option linter.unusedVariables false
set_option linter.unusedSimpArgs false
attribute [local go_sem] Oper.semAt_some Thr.wide_fn Thr.wide_depth Thr.wide_round

def byIdV (f : Fo) (o : Option Int) : Int × Int := match o with | some k => (k, 0) | none => (0, 3)
noncomputable def ByIdPost (f : Fo) (text : ByteArray) (w : World) (e : Ending) (w' : World) : Prop := e = .returned (.tuple #[.int .i64 (byIdV f (byId f text)).1, .int .i64 (byIdV f (byId f text)).2]) ∧ Below w.heap.size w w'
def idI (S : Nat) (fv : Value) (f : Fo) (text : ByteArray) (m : Nat) (X : Nat → Prop) (W : World) : Prop :=
  RdF (S + 2) W fv f ∧ W.heap[S]? = some (.cells #[fv] 33 (0, 0)) ∧ W.heap[S + 1]? = some (.cells #[.string text] 9 (0, 0)) ∧ W.heap[S + 2]? = some (.cells #[.int .i64 0] 3 (0, 0)) ∧ W.heap[S + 3]? = some (.cells #[.int .i64 0] 52 (0, 0)) ∧
    (∀ b, X b ↔ (b = S + 2 ∨ b = S + 3)) ∧ ∀ k ∈ (order f 0).take m, hitB f text k = false
def idX (S : Nat) (f : Fo) (text : ByteArray) (c : Code) (m : Nat) (X : Nat → Prop) (W : World) : Prop :=
  c = .ret ∧ ∃ x, W.heap[S + 2]? = some (.cells #[.int .i64 x] 3 (0, 0)) ∧ W.heap[S + 3]? = some (.cells #[.int .i64 0] 52 (0, 0)) ∧ (∀ b, X b ↔ (b = S + 2 ∨ b = S + 3)) ∧ byId f text = some x
theorem idI_foot (S : Nat) (fv : Value) (f : Fo) (text : ByteArray) : FootR (fun b => b < S + 2) (idI S fv f text) := by
  refine ⟨?_, ?_⟩
  · rintro m X W W' ⟨h1, h2, h3, h4, h5, h6, h7⟩ ho
    have hl := lt_heap h5
    refine ⟨h1.keep nodeE_keeps (ho.toBelow (by omega) (fun b hb => by have : ¬ b < S + 2 := hb.2; omega)) (Nat.le_refl _), ho.keep h2 (fun h => h.2 (by show S < S + 2; omega)), ho.keep h3 (fun h => h.2 (by show S + 1 < S + 2; omega)), ho.keep h4 (fun h => h.1 ((h6 _).2 (.inl rfl))), ho.keep h5 (fun h => h.1 ((h6 _).2 (.inr rfl))), h6, h7⟩
  · rintro m X W b ⟨h1, h2, h3, h4, h5, h6, h7⟩ hb
    rcases (h6 b).1 hb with rfl | rfl
    · exact lt_heap h4
    · exact lt_heap h5
theorem idX_foot (S : Nat) (f : Fo) (text : ByteArray) (c : Code) : FootR (fun b => b < S + 2) (idX S f text c) := by
  refine ⟨?_, ?_⟩
  · rintro m X W W' ⟨hc, x, h4, h5, h6, h7⟩ ho
    exact ⟨hc, x, ho.keep h4 (fun h => h.1 ((h6 _).2 (.inl rfl))), ho.keep h5 (fun h => h.1 ((h6 _).2 (.inr rfl))), h6, h7⟩
  · rintro m X W b ⟨hc, x, h4, h5, h6, h7⟩ hb
    rcases (h6 b).1 hb with rfl | rfl
    · exact lt_heap h4
    · exact lt_heap h5
theorem byId_hit {f : Fo} {text : ByteArray} {m : Nat} (hm : m < (order f 0).length) (hn : ∀ k ∈ (order f 0).take m, hitB f text k = false) (hh : hitB f text (order f 0)[m] = true) : byId f text = some (order f 0)[m] := by
  unfold byId
  have e : (order f 0).find? (hitB f text) = ((order f 0).take m ++ (order f 0).drop m).find? (hitB f text) := by rw [List.take_append_drop]
  rw [e, List.find?_append, List.drop_eq_getElem_cons hm, List.find?_eq_none.2 (fun k hk => by rw [hn k hk]; simp), List.find?_cons_of_pos hh]
  simp
theorem empty_dec (t : ByteArray) : (!t.toList.isEmpty) = decide (t.size ≠ 0) := by
  rw [Lib.toList_data, Lib.size_eq]
  cases h : t.data.toList <;> simp
/-- A round that does not hit. -/
theorem idI_next {S : Nat} {fv : Value} {f : Fo} {text : ByteArray} {m : Nat} {X : Nat → Prop} {W w6 : World} (hI : idI S fv f text m X W) (hb : Below W.heap.size W w6) (x : Int) (hnx : (order f 0).take (m + 1) = (order f 0).take m ++ [x]) (hx : hitB f text x = false) :
    Off X W w6 ∧ idI S fv f text (m + 1) X w6 := by
  obtain ⟨h1, h2, h3, h4, h5, h6, h7⟩ := hI
  have hlt := lt_heap h5
  refine ⟨Off.below hb (fun b h h' => by omega), h1.keep nodeE_keeps (hb.mono (by omega)) (Nat.le_refl _), (hb.block _ (by omega)).trans h2, (hb.block _ (by omega)).trans h3, (hb.block _ (by omega)).trans h4, (hb.block _ (by omega)).trans h5, h6, ?_⟩
  intro k hk
  rw [hnx] at hk
  rcases List.mem_append.1 hk with hk | hk
  · exact h7 k hk
  · rw [List.mem_singleton.1 hk]; exact hx
theorem byId_none {f : Fo} {text : ByteArray} (hn : ∀ k ∈ order f 0, hitB f text k = false) : byId f text = none := by
  unfold byId
  exact List.find?_eq_none.2 (fun k hk => by rw [hn k hk]; simp)
set_option maxRecDepth 100000 in
set_option maxHeartbeats 4000000 in
theorem ById_calls (w : World) (v : Value) (f : Fo) (h : RdF w.heap.size w v f) (hm : mayB f = true) (text : ByteArray) : Calls Try.prog 43 #[v, .string text] w (ByIdPost f text w) := by
  obtain ⟨A0, c0, rfl, hl0, hc0, h'⟩ := h.form
  simp only [maxLen] at hc0
  have hl60 := (may_is hm).len
  have hn : isNode f 0 = true := (node_iff f 0).2 ⟨by omega, by omega⟩
  obtain ⟨w2, hw2⟩ : ∃ w2, (((w.alloc (.cells #[.slice A0 f.length c0] 33)).alloc (.cells #[.string text] 9)).alloc (.cells #[.int .i64 0] 3)).alloc (.cells #[.int .i64 0] 52) = w2 := ⟨_, rfl⟩
  have hs2 : w2.heap.size = w.heap.size + 4 := by rw [← hw2]; simp
  have p0 : w2.heap[w.heap.size]? = some (.cells #[.slice A0 f.length c0] 33 (0, 0)) := by rw [← hw2]; exact heap_old (heap_old (heap_old (World.alloc_heap_new _ _)))
  have p1 : w2.heap[w.heap.size + 1]? = some (.cells #[.string text] 9 (0, 0)) := by rw [← hw2]; exact heap_old (heap_old (heap_new (by simp)))
  have p2 : w2.heap[w.heap.size + 2]? = some (.cells #[.int .i64 0] 3 (0, 0)) := by rw [← hw2]; exact heap_old (heap_new (by simp))
  have p3 : w2.heap[w.heap.size + 3]? = some (.cells #[.int .i64 0] 52 (0, 0)) := by rw [← hw2]; exact heap_new (by simp)
  have hb2 : Below w.heap.size w w2 := by rw [← hw2]; exact ((((Below.refl _ _).alloc (Nat.le_refl _) _).alloc (by simp) _).alloc (by simp; omega) _).alloc (by simp; omega) _
  have hr2 : RdF w.heap.size w2 (.slice A0 f.length c0) f := h'.below nodeE_keeps hb2 (Nat.le_refl _)
  have hc2 := cell_of p0
  have Hw2 := Lib.hid hw2
  clear hw2 h h'
  refine (callsIn_wide (n := 0)).1 ?_
  refine callsIn_of_wp_marks Try.func43 rfl trivial ?_ rfl
  simp only [Try.ntmps43, List.size_toArray, List.length_cons, List.length_nil, Nat.reduceAdd, Nat.reduceSub, Array.replicate_succ, Array.replicate_zero, List.push_toArray, List.append_toArray, List.nil_append, List.cons_append]
  gi_upto_region 1 with fail
  rw [Hw2.out]
  gi_wp2_with (gi_at_call 76; (refine (callsIn_wide.2 (through_calls _ _ _ _ _)).mono ?_); rintro e w5 ⟨rfl, hw5⟩)
  have hz5 : w5.heap.size = w.heap.size + 6 := by rw [← hw5]; simp; omega
  have q0 : w5.heap[w.heap.size]? = some (.cells #[.slice A0 f.length c0] 33 (0, 0)) := by rw [← hw5]; exact heap_old (heap_old p0)
  have q1 : w5.heap[w.heap.size + 1]? = some (.cells #[.string text] 9 (0, 0)) := by rw [← hw5]; exact heap_old (heap_old p1)
  have q2 : w5.heap[w.heap.size + 2]? = some (.cells #[.int .i64 0] 3 (0, 0)) := by rw [← hw5]; exact heap_old (heap_old p2)
  have q3 : w5.heap[w.heap.size + 3]? = some (.cells #[.int .i64 0] 52 (0, 0)) := by rw [← hw5]; exact heap_old (heap_old p3)
  have qf : w5.heap[w.heap.size + 4]? = some (.cells #[.slice A0 f.length c0] 33 (0, 0)) := by rw [← hw5, ← hs2]; exact heap_old (World.alloc_heap_new w2 _)
  have qi : w5.heap[w.heap.size + 4 + 1]? = some (.cells #[.int .i64 0] 3 (0, 0)) := by
    rw [← hw5, ← hs2]
    have := World.alloc_heap_new (w2.alloc (.cells #[.slice A0 f.length c0] 33)) (.cells #[.int .i64 0] 3)
    rwa [World.size_alloc] at this
  have hb25 : Below w2.heap.size w2 w5 := by rw [← hw5]; exact ((Below.refl _ _).alloc (Nat.le_refl _) _).alloc (by simp) _
  have hb5 : Below w.heap.size w w5 := bthen hb2 hb25
  have hr5 : RdF (w.heap.size + 2) w5 (.slice A0 f.length c0) f := (hr2.keep nodeE_keeps (hb25.mono (by omega)) (Nat.le_refl _)).mono nodeE_keeps (by omega)
  have hall : ∀ x ∈ order f 0, isNode f x = true := fun x hx => ((order_mem (may_is hm) hn x).1 hx).1
  have Hall := Lib.hid hall; have Hb5 := Lib.hid hb5; have Hz5 := Lib.hid hz5
  clear hw5 hall hb25 hb5 hb2 hr2 hc2 Hw2 p0 p1 p2 p3
  refine wpIn_rangeR rfl (enters_of Try.func96 (by kernel_rfl) rfl) (through_seqR f hm 0 hn (by decide) (w.heap.size + 2) (w.heap.size + 4 + 1) (w.heap.size + 4) (by omega) (by omega) (.slice A0 f.length c0))
    (fun W ho => ⟨ho.keep qi (fun h => h), ho.keep qf (fun h => h), hr5.keep nodeE_keeps (ho.toBelow (by omega) (fun b hb => hb.elim)) (Nat.le_refl _), by have := ho.size; omega⟩)
    (idI w.heap.size (.slice A0 f.length c0) f text) (idX w.heap.size f text) (idI_foot _ _ _ _) (idX_foot _ _ _) (fun b => b = w.heap.size + 2 ∨ b = w.heap.size + 3)
    (fun b hb => ⟨fun h => h, fun h => by omega⟩)
    ⟨hr5, q0, q1, q2, q3, fun b => Iff.rfl, by simp⟩
    (fun b h => by rcases h with h | h | h | h; exact h.elim; omega; omega; omega) (fun b hb => by have : b < w.heap.size + 2 := hb; omega)
    (fun m => { tmps := #[.slice A0 f.length c0, .string text, .pointer (some ⟨w.heap.size, 0, none⟩), .pointer (some ⟨w.heap.size + 1, 0, none⟩), .pointer (some ⟨w.heap.size + 1 + 1, 0, none⟩), .pointer (some ⟨w.heap.size + 1 + 1 + 1, 0, none⟩), ((order f 0).map (Value.int .i64)).getD m undef, undef, undef, .slice A0 f.length c0,
      .func (.func 96) #[] #[.pointer (some ⟨w.heap.size + 4 + 1, 0, none⟩), .pointer (some ⟨w.heap.size + 4, 0, none⟩)], ((order f 0).map (Value.int .i64)).getD m undef, undef, undef, undef, undef, undef, undef, undef, undef, undef, undef, undef, undef, undef, undef, undef, undef, undef, undef], defers := [] })
    ?assign ?body ?done ?stop
  case assign =>
    intro l m hm' W K hK
    rw [show ((order f 0).map (Value.int .i64)).getD m undef = ((order f 0).map (Value.int .i64))[m] by rw [List.getD_eq_getElem?_getD, List.getElem?_eq_getElem hm']; rfl] at hK
    generalize ((order f 0).map (Value.int .i64))[m] = x at *
    gi_wp2
    exact hK
  case body =>
    rintro l m hm' X' W' ⟨h1, h2, h3, h4, h5, h6, h7⟩
    have hmo : m < (order f 0).length := by simpa using hm'
    rw [show ((order f 0).map (Value.int .i64)).getD m undef = .int .i64 (order f 0)[m] by rw [List.getD_eq_getElem?_getD, List.getElem?_eq_getElem hm']; simp]
    have hnx : (order f 0).take (m + 1) = (order f 0).take m ++ [(order f 0)[m]] := List.take_succ_eq_append_getElem hmo
    have hhit := byId_hit (text := text) hmo h7
    have hat := Attr_calls W' _ f (h1.mono nodeE_keeps (by have := lt_heap h5; omega)) (order f 0)[m] idN
    have hc0 := cell_of h2
    have hlt := lt_heap h5
    have hkeep : ∀ w6, Below W'.heap.size W' w6 → w6.cell? ⟨w.heap.size + 1, 0, none⟩ = some (.string text) := fun w6 hb => cell_grow hb (cell_of h3)
    have hfr2 : ∀ w6, Below W'.heap.size W' w6 → w6.heap[w.heap.size + 2]? = some (.cells #[.int .i64 0] 3 (0, 0)) ∧ w6.heap[w.heap.size + 3]? = some (.cells #[.int .i64 0] 52 (0, 0)) := fun w6 hb => ⟨(hb.block _ (by omega)).trans h4, (hb.block _ (by omega)).trans h5⟩
    have hH : hitB f text (order f 0)[m] = (decide (attrErr f (order f 0)[m] idN = 0) && decide (attrVal f (order f 0)[m] idN = text) && decide (text.size ≠ 0)) := rfl
    have H1 := Lib.hid h1; have H2 := Lib.hid h2; have H3 := Lib.hid h3; have H4 := Lib.hid h4; have H5 := Lib.hid h5; have H6 := Lib.hid h6; have H7 := Lib.hid h7; have Hnx := Lib.hid hnx; have Hhit := Lib.hid hhit; have Hat := Lib.hid hat; have Hkeep := Lib.hid hkeep; have Hfr := Lib.hid hfr2; have HH := Lib.hid hH
    clear h1 h2 h3 h4 h5 h6 h7 hnx hhit hat hkeep hfr2 hH q0 q1 q2 q3 qf qi hr5
    generalize (order f 0)[m] = x at *
    unfold AttrPost at Hat
    obtain ⟨E, hE⟩ : ∃ E, attrErr f x idN = E := ⟨_, rfl⟩
    obtain ⟨V, hV⟩ : ∃ V, attrVal f x idN = V := ⟨_, rfl⟩
    rw [hE, hV] at Hat HH
    gi_wp2_with (gi_at_call 44; (refine (callsIn_wide.2 Hat.out).mono ?_); rintro e w6 ⟨rfl, hb6⟩; have k1 := Hkeep.out w6 hb6; obtain ⟨k2, k3⟩ := Hfr.out w6 hb6; have k4 := free_of k2 0; have k5 := free_of k3 0; have k6 := cell_of k2; have k7 := cell_of k3; have K2 := Lib.hid k2; have K3 := Lib.hid k3; have Hb6 := Lib.hid hb6; clear k2 k3 hb6)
    · have he : V.toList = text.toList := by assumption
      have hE0 : E = 0 := by assumption
      have ht : (!text.toList.isEmpty) = true := by assumption
      rw [FSame.str_inj] at he
      rw [empty_dec] at ht
      have hbi := Hhit.out (by rw [HH.out, decide_eq_true he, decide_eq_true hE0, ht]; rfl)
      refine ⟨X', Grew.refl _ _, ((Off.below Hb6.out (fun b h h' => by omega)).trans (Off.setCell _ _ _ ((H6.out _).2 (.inl rfl)))).trans (Off.setCell _ _ _ ((H6.out _).2 (.inr rfl))), rfl, x, (set_other (by omega)).trans (set_one K2.out), set_one ((set_other (by omega)).trans K3.out), H6.out, hbi⟩
    · have ht : (!text.toList.isEmpty) = false := by assumption
      rw [empty_dec] at ht
      obtain ⟨r1, r2⟩ := idI_next ⟨H1.out, H2.out, H3.out, H4.out, H5.out, H6.out, H7.out⟩ Hb6.out x Hnx.out (by rw [HH.out, ht, Bool.and_false])
      exact ⟨X', Grew.refl _ _, r1, r2⟩
    · have he : ¬ V.toList = text.toList := by assumption
      rw [FSame.str_inj] at he
      obtain ⟨r1, r2⟩ := idI_next ⟨H1.out, H2.out, H3.out, H4.out, H5.out, H6.out, H7.out⟩ Hb6.out x Hnx.out (by rw [HH.out, decide_eq_false he, Bool.and_false, Bool.false_and])
      exact ⟨X', Grew.refl _ _, r1, r2⟩
    · have he : ¬ E = 0 := by assumption
      obtain ⟨r1, r2⟩ := idI_next ⟨H1.out, H2.out, H3.out, H4.out, H5.out, H6.out, H7.out⟩ Hb6.out x Hnx.out (by rw [HH.out, decide_eq_false he, Bool.false_and, Bool.false_and])
      exact ⟨X', Grew.refl _ _, r1, r2⟩
  case done =>
    rintro D X' W hD hXD hgr hof ⟨h1, h2, h3, h4, h5, h6, h7⟩ hK
    rw [List.length_map, List.take_of_length_le (Nat.le_refl _)] at h7
    have hbi := byId_none h7
    have hc4 := cell_of h4
    have hc5 := cell_of h5
    have hf4 := free_of h4 0
    have hf5 := free_of h5 0
    have H4 := Lib.hid h4; have H5 := Lib.hid h5; have HK := Lib.hid hK; have Hof := Lib.hid hof; have Hbi := Lib.hid hbi
    clear h1 h2 h3 h4 h5 h6 h7 hK hof hgr q0 q1 q2 q3 qf qi hr5 hbi
    gi_wp2
    refine ⟨by simp, .inl ⟨_, _, rfl, run_takeDeferred ((set_other (by omega)).trans ((set_other (by omega)).trans HK.out)), ?_⟩⟩
    have g2 : (((W.setCell ⟨w.heap.size + 2, 0, none⟩ (.int .i64 0)).setCell ⟨w.heap.size + 3, 0, none⟩ (.int .i64 3)).putObj D (.deferred none)).heap[w.heap.size + 2]? = some (.cells #[.int .i64 0] 3 (0, 0)) := (put_other (by omega)).trans ((set_other (by omega)).trans (set_one H4.out))
    have g3 : (((W.setCell ⟨w.heap.size + 2, 0, none⟩ (.int .i64 0)).setCell ⟨w.heap.size + 3, 0, none⟩ (.int .i64 3)).putObj D (.deferred none)).heap[w.heap.size + 3]? = some (.cells #[.int .i64 3] 52 (0, 0)) := (put_other (by omega)).trans (set_one ((set_other (by omega)).trans H5.out))
    have c2 := cell_of g2
    have c3 := cell_of g3
    refine ⟨.tuple #[.int .i64 0, .int .i64 3], by simp [results, Try.results43, c2, c3, go_sem], by rw [Hbi.out]; rfl, ?_⟩
    have b1 := ((Hb5.out.trans (Hof.out.toBelow (B := w.heap.size) (by omega) (fun b h => by rcases h with h | h; omega; exact h.elim))).setCell (p := ⟨w.heap.size + 2, 0, none⟩) (by simp) (.int .i64 0)).setCell (p := ⟨w.heap.size + 3, 0, none⟩) (by simp) (.int .i64 3)
    exact b1.trans (Off.toBelow (Y := fun b => b = D) (Off.putObj _ _ _ rfl) b1.size (fun b h => by omega))
  case stop =>
    rintro D c m X' W hk hD hXD hgr hof ⟨rfl, x, h4, h5, h6, h7⟩ hK
    gi_wp2
    refine ⟨by simp, .inl ⟨_, _, rfl, run_takeDeferred hK, ?_⟩⟩
    have c2 := cell_of ((put_other (o := .deferred none) (show w.heap.size + 2 ≠ D by omega)).trans h4)
    have c3 := cell_of ((put_other (o := .deferred none) (show w.heap.size + 3 ≠ D by omega)).trans h5)
    refine ⟨.tuple #[.int .i64 x, .int .i64 0], by simp [results, Try.results43, c2, c3, go_sem], by rw [h7]; rfl, ?_⟩
    have b1 := Hb5.out.trans (hof.toBelow (B := w.heap.size) (by omega) (fun b h => by rcases h with h | h; omega; exact h.elim))
    exact b1.trans (Off.toBelow (Y := fun b => b = D) (Off.putObj _ _ _ rfl) b1.size (fun b h => by omega))
end Go.Proofs.Ytbbompmpecblgaa.Wk
end
section
/- The forest that treillagelaw08 shows. No program. -/
namespace Go.Proofs.Ytbbompmpecblgaa.FS
open Go.Proofs.Ytbbompmpecblgaa.WS
set_option linter.unusedVariables false
def dOps : List Opn := [{ kind := 1, name := ⟨#[97]⟩ }, { kind := 4, id := 1 }, { kind := 2, text := ⟨#[120]⟩ }, { kind := 4, id := 2, «to» := 1 }, { kind := 6, id := 1, name := ⟨#[105, 100]⟩, text := ⟨#[107]⟩ }]
def d1 : Fo := [⟨0, ⟨#[]⟩, ⟨#[]⟩, [], -1, []⟩, ⟨1, ⟨#[97]⟩, ⟨#[]⟩, [], -1, []⟩]
def d2 : Fo := [⟨0, ⟨#[]⟩, ⟨#[]⟩, [], -1, [1]⟩, ⟨1, ⟨#[97]⟩, ⟨#[]⟩, [], 0, []⟩]
def d3 : Fo := [⟨0, ⟨#[]⟩, ⟨#[]⟩, [], -1, [1]⟩, ⟨1, ⟨#[97]⟩, ⟨#[]⟩, [], 0, []⟩, ⟨2, ⟨#[]⟩, ⟨#[120]⟩, [], -1, []⟩]
def d4 : Fo := [⟨0, ⟨#[]⟩, ⟨#[]⟩, [], -1, [1]⟩, ⟨1, ⟨#[97]⟩, ⟨#[]⟩, [], 0, [2]⟩, ⟨2, ⟨#[]⟩, ⟨#[120]⟩, [], 1, []⟩]
def d5 : Fo := [⟨0, ⟨#[]⟩, ⟨#[]⟩, [], -1, [1]⟩, ⟨1, ⟨#[97]⟩, ⟨#[]⟩, [⟨⟨#[105, 100]⟩, ⟨#[107]⟩⟩], 0, [2]⟩, ⟨2, ⟨#[]⟩, ⟨#[120]⟩, [], 1, []⟩]
theorem one_do {f g : Fo} {o : Opn} (h : oneE f o = 0) (hd : doF f o = g) : oneF f o = g := by unfold oneF; rw [if_pos h, hd]
theorem e1 : oneF newFo { kind := 1, name := ⟨#[97]⟩ } = d1 := one_do (by
  unfold oneE checks
  rw [if_pos (by decide), if_pos rfl]
  decide) (by decide)
theorem m1 : mayB d1 = true := by rw [← e1]; exact one_may new_may _
theorem b1 : belowB d1 1 0 = false := below_eq m1 (by decide) ⟨fun h => by
  rw [belowP_step (by decide) (by decide)] at h
  exact absurd h (belowP_end (by decide)), fun h => by cases h⟩
theorem e2 : oneF d1 { kind := 4, id := 1 } = d2 := one_do (by
  unfold oneE checks
  rw [if_pos (by decide), if_neg (by decide), if_neg (by decide), if_pos rfl]
  simp only [b1]
  decide) (by decide)
theorem m2 : mayB d2 = true := by rw [← e2]; exact one_may m1 _
theorem e3 : oneF d2 { kind := 2, text := ⟨#[120]⟩ } = d3 := one_do (by
  unfold oneE checks
  rw [if_pos (by decide), if_neg (by decide), if_pos (by decide)]
  decide) (by decide)
theorem m3 : mayB d3 = true := by rw [← e3]; exact one_may m2 _
theorem b3 : belowB d3 2 1 = false := below_eq m3 (by decide) ⟨fun h => by
  rw [belowP_step (by decide) (by decide), show (at_ d3 1).parent = 0 by decide, belowP_step (by decide) (by decide)] at h
  exact absurd h (belowP_end (by decide)), fun h => by cases h⟩
theorem e4 : oneF d3 { kind := 4, id := 2, «to» := 1 } = d4 := one_do (by
  unfold oneE checks
  rw [if_pos (by decide), if_neg (by decide), if_neg (by decide), if_pos rfl]
  simp only [b3]
  decide) (by decide)
theorem m4 : mayB d4 = true := by rw [← e4]; exact one_may m3 _
theorem e5 : oneF d4 { kind := 6, id := 1, name := ⟨#[105, 100]⟩, text := ⟨#[107]⟩ } = d5 := one_do (by
  unfold oneE checks
  rw [if_pos (by decide), if_neg (by decide), if_neg (by decide), if_neg (by decide), if_neg (by decide), if_pos rfl]
  decide) (by decide)
theorem m5 : mayB d5 = true := by rw [← e5]; exact one_may m4 _
theorem d_grow : dOps.foldl oneF newFo = d5 := by
  show oneF (oneF (oneF (oneF (oneF newFo _) _) _) _) _ = d5
  rw [e1, e2, e3, e4, e5]
theorem d_node {i : Int} (h : isNode d5 i = true) : order d5 i = i :: (at_ d5 i).kids.flatMap (order d5) := order_eq (may_is m5).fam (may_is m5).climb h
theorem d_order : order d5 0 = [0, 1, 2] := by
  rw [d_node (by decide), show (at_ d5 0).kids = [1] by decide, List.flatMap_cons, List.flatMap_nil, d_node (by decide), show (at_ d5 1).kids = [2] by decide, List.flatMap_cons, List.flatMap_nil, d_node (by decide), show (at_ d5 2).kids = [] by decide]
  rfl
theorem d_content : contentL d5 0 = [120] := by
  unfold contentL
  rw [d_order]
  decide
theorem d_byId : byId d5 ⟨#[107]⟩ = some 1 := by
  unfold byId
  rw [d_order]
  decide
theorem d_parent : parentE d5 2 = (1, 0) := by decide
end Go.Proofs.Ytbbompmpecblgaa.FS
end
section
/- treillagelaw08.shown. -/
namespace Go.Proofs.Ytbbompmpecblgaa.Wk
open Go Go.RowKit Go.Proofs.Ytbbompmpecblgaa.Seq Go.Proofs.Ytbbompmpecblgaa.WS Go.Proofs.Ytbbompmpecblgaa.FS Go.Proofs.Ytbbompmpecblgaa.Mem Go.Proofs.Ytbbompmpecblgaa.Rd Go.Proofs.Ytbbompmpecblgaa.Shapes Go.Proofs.Ytbbompmpecblgaa.Word Go.Proofs.Ytbbompmpecblgaa.FFam
set_option linter.unusedVariables false
set_option linter.unusedSimpArgs false
abbrev opsA : Array Value := #[.int .i64 1, .int .i64 0, .int .i64 0, .int .i64 0, .string ⟨#[97]⟩, .string ⟨#[]⟩, .int .i64 4, .int .i64 1, .int .i64 0, .int .i64 0, .string ⟨#[]⟩, .string ⟨#[]⟩, .int .i64 2, .int .i64 0, .int .i64 0, .int .i64 0, .string ⟨#[]⟩, .string ⟨#[120]⟩,
  .int .i64 4, .int .i64 2, .int .i64 1, .int .i64 0, .string ⟨#[]⟩, .string ⟨#[]⟩, .int .i64 6, .int .i64 1, .int .i64 0, .int .i64 0, .string ⟨#[105, 100]⟩, .string ⟨#[107]⟩]
def opL (o : Opn) : List Value := [.int .i64 o.kind, .int .i64 o.id, .int .i64 o.to, .int .i64 o.at_, .string o.name, .string o.text]
theorem d_ok : ∀ o ∈ dOps, o.name.size ≤ maxLen ∧ o.text.size ≤ maxLen ∧ (Lit.int .i64 o.kind).wf = true ∧ (Lit.int .i64 o.id).wf = true ∧ (Lit.int .i64 o.to).wf = true ∧ (Lit.int .i64 o.at_).wf = true := by decide
theorem ops_rd (w : World) (b : Nat) (h : w.heap[b]? = some (.cells opsA 101 (0, 0))) : RdO w.heap.size w (.slice (some ⟨b, 0, none⟩) 5 5) dOps := by
  have l1 := lt_heap h
  refine ⟨_, 5, rfl, by decide, by decide, fun h0 => ⟨b, 0, rfl, l1, fun i hi => ?_⟩⟩
  have hi5 : i < 5 := hi
  match i, hi5 with
  | 0, _ => exact ⟨opL dOps[0], rfl, fun j u hj => by rw [cell_of_row _ _ _ _ _ _ h]; exact LShown.six 0 hj (by rfl), rfl, d_ok _ (List.getElem_mem _)⟩
  | 1, _ => exact ⟨opL dOps[1], rfl, fun j u hj => by rw [cell_of_row _ _ _ _ _ _ h]; exact LShown.six 6 hj (by rfl), rfl, d_ok _ (List.getElem_mem _)⟩
  | 2, _ => exact ⟨opL dOps[2], rfl, fun j u hj => by rw [cell_of_row _ _ _ _ _ _ h]; exact LShown.six 12 hj (by rfl), rfl, d_ok _ (List.getElem_mem _)⟩
  | 3, _ => exact ⟨opL dOps[3], rfl, fun j u hj => by rw [cell_of_row _ _ _ _ _ _ h]; exact LShown.six 18 hj (by rfl), rfl, d_ok _ (List.getElem_mem _)⟩
  | 4, _ => exact ⟨opL dOps[4], rfl, fun j u hj => by rw [cell_of_row _ _ _ _ _ _ h]; exact LShown.six 24 hj (by rfl), rfl, d_ok _ (List.getElem_mem _)⟩
set_option maxRecDepth 100000 in
set_option maxHeartbeats 4000000 in
theorem shown_calls (w : World) : Calls Try.prog 38 #[] w fun e w' => e = .returned (.bool true) ∧ Below w.heap.size w w' := by
  have hb0 : Below w.heap.size w (w.alloc (.cells opsA 101)) := (Below.refl _ _).alloc (Nat.le_refl _) _
  have hg := Grown.grown_calls (w.alloc (.cells opsA 101)) _ dOps (ops_rd _ _ (World.alloc_heap_new _ _))
  unfold Grown.GrownPost at hg
  rw [show Grown.growF dOps = d5 from d_grow] at hg
  have Hg := Lib.hid hg; have Hb0 := Lib.hid hb0
  clear hg hb0
  go_enter Try.func38, Try.ntmps38
  go_upto_region 2 with (go_at_call 39; (with_reducible refine (Hg.out).mono ?_); rintro e w5 ⟨v5, rfl, hr5, hb5⟩; have Hr5 := Lib.hid hr5; have Hb5 := Lib.hid hb5; clear hr5 hb5)
  have hr := fun w' (hb : Below w5.heap.size w5 w') => (Hr5.out.below nodeE_keeps (w' := w') hb (Nat.le_refl _)).mono nodeE_keeps hb.size
  have h1 := fun w' hb => Content_calls w' _ d5 (hr w' hb) m5 0 (by decide)
  have h2 := fun w' hb => ById_calls w' _ d5 (hr w' hb) m5 ⟨#[107]⟩
  have h3 := fun w' hb => Parent_calls w' _ d5 (hr w' hb) 2
  unfold ContentPost at h1
  unfold ByIdPost at h2
  rw [show contentO d5 0 = [120] from (if_pos (by decide)).trans d_content, show nodeErr d5 0 = 0 from if_pos (by decide)] at h1
  rw [d_byId, show byIdV d5 (some 1) = (1, 0) from rfl] at h2
  rw [d_parent] at h3
  simp only at h2 h3
  have H1 := Lib.hid h1; have H2 := Lib.hid h2; have H3 := Lib.hid h3
  clear h1 h2 h3 hr
  go_wp2_with (first
    | (go_at_call 40; (with_reducible refine (H1.out _ (Below.refl _ _)).mono ?_); rintro e w6 ⟨rfl, hb6⟩; have Hb6 := Lib.hid hb6; clear hb6)
    | (go_at_call 43; (with_reducible refine (H2.out _ Hb6.out).mono ?_); rintro e w7 ⟨rfl, hb7⟩; have Hb7 := Lib.hid (bthen Hb6.out hb7); clear hb7)
    | (go_at_call 41; (with_reducible refine (H3.out _ Hb7.out).mono ?_); rintro e w8 ⟨rfl, rfl⟩))
  go_ret
  exact ⟨rfl, bthen Hb0.out (bthen Hb5.out Hb7.out)⟩
end Go.Proofs.Ytbbompmpecblgaa.Wk
end
section
/- walk.Beside, there and back. No program. -/
namespace Go.Proofs.Ytbbompmpecblgaa.FS
open Go.Proofs.Ytbbompmpecblgaa.WS
set_option linter.unusedVariables false
theorem bes_err {f : Fo} (h : IsMay f) {p : Int} (hp : isNode f p = true) {j : Nat} (hj : j < (at_ f p).kids.length) (d : Int) (hd : ¬ (-(j : Int) ≤ d ∧ d < (at_ f p).kids.length - (j : Int))) : besideE f (at_ f p).kids[j] d = (0, 3) := by
  rw [beside_at h hp hj rfl d, if_neg hd]
theorem bes_ok {f : Fo} (h : IsMay f) {p : Int} (hp : isNode f p = true) {j : Nat} (hj : j < (at_ f p).kids.length) (d : Int) (m : Nat) (hm : m < (at_ f p).kids.length) (hd : (j : Int) + d = m) : besideE f (at_ f p).kids[j] d = ((at_ f p).kids[m], 0) := by
  rw [beside_at h hp hj rfl d, if_pos (by omega), hd, Int.toNat_natCast, List.getD_eq_getElem?_getD, List.getElem?_eq_getElem hm]
  rfl
theorem kid_parent {f : Fo} (h : IsMay f) {p : Int} (hp : isNode f p = true) {j : Nat} (hj : j < (at_ f p).kids.length) : parentE f (at_ f p).kids[j] = (p, 0) := by
  obtain ⟨h1, h2⟩ := fam_kids h.fam hp (List.getElem_mem hj)
  have h0 := ((node_iff _ _).1 hp).1
  unfold parentE
  rw [if_neg (by rw [h1]; decide), h2, if_neg (by omega)]
theorem bes_back {f : Fo} (h : IsMay f) {k : Nat} (hk : k < f.length) (n : Nat) : besideE f k n = (0, 3) ∨ ∃ (x : Nat) (p : Int), x < f.length ∧ besideE f k n = ((x : Int), 0) ∧ besideE f x (-(n : Int)) = ((k : Int), 0) ∧ parentE f k = (p, 0) ∧ parentE f x = (p, 0) ∧ (n = 0 ↔ x = k) := by
  obtain ⟨q1, q2, q3⟩ := h.par k hk
  by_cases hp : (at_ f (k : Int)).parent = -1
  · left
    unfold besideE
    rw [if_neg (by rw [nodeI hk]; decide), if_pos hp]
  · have hpn : isNode f (at_ f (k : Int)).parent = true := (node_iff _ _).2 ⟨by omega, by omega⟩
    have hc := q3 (by omega)
    generalize (at_ f (k : Int)).parent = p at *
    have hmem : (k : Int) ∈ (at_ f p).kids := List.count_pos_iff.1 (by omega)
    obtain ⟨j, hj, _, hjk⟩ := idxL_mem hmem
    by_cases hl : j + n < (at_ f p).kids.length
    · right
      obtain ⟨h1, h2⟩ := fam_kids h.fam hpn (List.getElem_mem hl)
      obtain ⟨x, hx, hxl⟩ := node_nat h1
      refine ⟨x, p, hxl, ?_, ?_, ?_, ?_, ?_⟩
      · rw [← hjk, ← hx]; exact bes_ok h hpn hj _ _ hl (by omega)
      · rw [← hjk, ← hx]; exact bes_ok h hpn hl _ _ hj (by omega)
      · rw [← hjk]; exact kid_parent h hpn hj
      · rw [← hx]; exact kid_parent h hpn hl
      · constructor
        · rintro rfl
          have : (x : Int) = k := by rw [← hx, ← hjk]; rfl
          omega
        · rintro rfl
          have := (List.getElem_inj (kids_nodup h.fam hpn)).1 (hx.trans hjk.symm)
          omega
    · left
      rw [← hjk]
      exact bes_err h hpn hj _ (by omega)
end Go.Proofs.Ytbbompmpecblgaa.FS
end
