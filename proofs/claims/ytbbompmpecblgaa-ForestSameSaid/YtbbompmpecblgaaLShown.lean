/- treillagelaw05.shown. -/
import Derived.Test.YtbbompmpecblgaaFPrint
import Derived.Test.YtbbompmpecblgaaFSameR
import Derived.Test.YtbbompmpecblgaaFNew
import Derived.Test.YtbbompmpecblgaaFDemo
namespace Go.Proofs.Ytbbompmpecblgaa.LShown
open Go Go.RowKit Go.Proofs.Ytbbompmpecblgaa.Seq Go.Proofs.Ytbbompmpecblgaa.WS Go.Proofs.Ytbbompmpecblgaa.FS Go.Proofs.Ytbbompmpecblgaa.Mem Go.Proofs.Ytbbompmpecblgaa.Rd Go.Proofs.Ytbbompmpecblgaa.Shapes Go.Proofs.Ytbbompmpecblgaa.Word
set_option linter.unusedVariables false
set_option linter.unusedSimpArgs false

theorem lit_kids (w : World) (B b : Nat) (l : List Int) (hb : w.heap[b]? = some (.cells (l.map (Value.int .i64)).toArray 3 (0, 0))) (hB : b < B) (hl : l.length ≤ maxLen) (hw : ∀ x ∈ l, (Lit.int .i64 x).wf = true) : RdL (intE .i64) 1 B w (.slice (some ⟨b, 0, none⟩) l.length l.length) l := by
  refine ⟨_, _, rfl, Nat.le_refl _, hl, fun h0 => ⟨b, 0, rfl, hB, fun i hi => ⟨[.int .i64 l[i]], rfl, fun j u hj => ?_, rfl, hw _ (List.getElem_mem _)⟩⟩⟩
  have hj0 : j = 0 := by have := (List.getElem?_eq_some_iff.1 hj).1; simp at this; omega
  subst hj0
  simp at hj
  subst hj
  rw [cell_of_row _ _ _ _ _ _ hb]
  simp [hi]
theorem six {a b c d e f u : Value} {L : List Value} {j : Nat} (o : Nat) (hj : [a, b, c, d, e, f][j]? = some u) (hL : L.drop o = [a, b, c, d, e, f] ++ L.drop (o + 6)) {k : Nat} (hk : k = o + j := by simp) : L.toArray[k]? = some u := by
  subst hk
  rw [List.getElem?_toArray, ← List.getElem?_drop, hL]
  exact List.getElem?_append_left (List.getElem?_eq_some_iff.1 hj).1 ▸ hj
theorem demo_rd (w : World) (b1 b2 b3 : Nat) (h1 : w.heap[b1]? = some (.cells #[.int .i64 1] 3 (0, 0))) (h2 : w.heap[b2]? = some (.cells #[.int .i64 2] 3 (0, 0)))
    (h3 : w.heap[b3]? = some (.cells #[.int .i64 0, .string ⟨#[]⟩, .string ⟨#[]⟩, .slice none 0 0, .int .i64 (-1), .slice (some ⟨b1, 0, none⟩) 1 1, .int .i64 1, .string ⟨#[100, 105, 118]⟩, .string ⟨#[]⟩, .slice none 0 0, .int .i64 0, .slice (some ⟨b2, 0, none⟩) 1 1,
      .int .i64 2, .string ⟨#[]⟩, .string ⟨#[120, 60]⟩, .slice none 0 0, .int .i64 1, .slice none 0 0] 45 (0, 0))) : RdF w.heap.size w (.slice (some ⟨b3, 0, none⟩) 3 3) demoF := by
  have l1 := lt_heap h1
  have l2 := lt_heap h2
  have l3 := lt_heap h3
  have r1 := lit_kids w w.heap.size b1 [1] h1 l1 (by decide) (by decide)
  have r2 := lit_kids w w.heap.size b2 [2] h2 l2 (by decide) (by decide)
  refine ⟨_, 3, rfl, by decide, by decide, fun h0 => ⟨b3, 0, rfl, l3, fun i hi => ?_⟩⟩
  have hi3 : i < 3 := hi
  match i, hi3 with
  | 0, _ => exact ⟨[.int .i64 0, .string ⟨#[]⟩, .string ⟨#[]⟩, .slice none 0 0, .int .i64 (-1), .slice (some ⟨b1, 0, none⟩) 1 1], rfl, fun j u hj => by rw [cell_of_row _ _ _ _ _ _ h3]; exact six 0 hj (by simp), _, _, rfl, RdL.nil, r1, show (0 : Nat) ≤ maxLen by decide, show (0 : Nat) ≤ maxLen by decide, show (Lit.int .i64 0).wf = true by decide, show (Lit.int .i64 (-1)).wf = true by decide⟩
  | 1, _ => exact ⟨[.int .i64 1, .string ⟨#[100, 105, 118]⟩, .string ⟨#[]⟩, .slice none 0 0, .int .i64 0, .slice (some ⟨b2, 0, none⟩) 1 1], rfl, fun j u hj => by rw [cell_of_row _ _ _ _ _ _ h3]; exact six 6 hj (by simp), _, _, rfl, RdL.nil, r2, show (3 : Nat) ≤ maxLen by decide, show (0 : Nat) ≤ maxLen by decide, show (Lit.int .i64 1).wf = true by decide, show (Lit.int .i64 0).wf = true by decide⟩
  | 2, _ => exact ⟨[.int .i64 2, .string ⟨#[]⟩, .string ⟨#[120, 60]⟩, .slice none 0 0, .int .i64 1, .slice none 0 0], rfl, fun j u hj => by rw [cell_of_row _ _ _ _ _ _ h3]; exact six 12 hj (by simp), _, _, rfl, RdL.nil, RdL.nil, show (0 : Nat) ≤ maxLen by decide, show (2 : Nat) ≤ maxLen by decide, show (Lit.int .i64 2).wf = true by decide, show (Lit.int .i64 1).wf = true by decide⟩
theorem new1_rd (w : World) (b : Nat) (h : w.heap[b]? = some (.cells #[.int .i64 0, .string ⟨#[]⟩, .string ⟨#[]⟩, .slice none 0 0, .int .i64 (-1), .slice none 0 0] 45 (0, 0))) : RdF w.heap.size w (.slice (some ⟨b, 0, none⟩) 1 1) FNew.newF := by
  have l1 := lt_heap h
  refine ⟨_, 1, rfl, by decide, by decide, fun h0 => ⟨b, 0, rfl, l1, fun i hi => ?_⟩⟩
  have : i = 0 := by have : i < 1 := hi; omega
  subst this
  exact ⟨[.int .i64 0, .string ⟨#[]⟩, .string ⟨#[]⟩, .slice none 0 0, .int .i64 (-1), .slice none 0 0], rfl, fun j u hj => by rw [cell_of_row _ _ _ _ _ _ h]; exact six 0 hj (by simp), _, _, rfl, RdL.nil, RdL.nil, show (0 : Nat) ≤ maxLen by decide, show (0 : Nat) ≤ maxLen by decide, show (Lit.int .i64 0).wf = true by decide, show (Lit.int .i64 (-1)).wf = true by decide⟩
theorem slice_of {w : World} {base : Nat} {e : TypeId} {sz n : Nat} {v : Value} {xs : List Value} (h : w.ownsRow base e sz v n xs) : ∃ A c, v = .slice A n c := by
  rcases h.2 with ⟨rfl, rfl⟩ | ⟨g, cap, cur, rfl, _⟩
  · exact ⟨_, _, rfl⟩
  · exact ⟨_, _, rfl⟩
theorem new1_calls (w : World) : Calls Try.prog 36 #[] w fun e w' => ∃ A c, e = .returned (.slice A 1 c) ∧ RdF w'.heap.size w' (.slice A 1 c) FNew.newF ∧ Below w.heap.size w w' := by
  refine (FNew.New_calls w).mono ?_
  rintro e w' ⟨v, rfl, hr, hb⟩
  obtain ⟨A, c, rfl, _, _, hr'⟩ := hr.form
  exact ⟨A, c, rfl, hr', hb⟩
theorem demo_kids : ∀ n ∈ demoF, n.kids.length ≤ 1000 := by decide
set_option maxRecDepth 100000 in
set_option maxHeartbeats 4000000 in
theorem shown_calls (w : World) : Calls Try.prog 28 #[] w fun e w' => e = .returned (.bool true) ∧ Below w.heap.size w w' := by
  go_enter Try.func28, Try.ntmps28
  go_upto_region 2 with fail
  obtain ⟨W0, hW0⟩ : ∃ W0, ((w.alloc (.cells #[.int .i64 1] 3)).alloc (.cells #[.int .i64 2] 3)).alloc (.cells #[.int .i64 0, .string ⟨#[]⟩, .string ⟨#[]⟩, .slice none 0 0, .int .i64 (-1), .slice (some ⟨w.heap.size, 0, none⟩) 1 1, .int .i64 1, .string ⟨#[100, 105, 118]⟩, .string ⟨#[]⟩, .slice none 0 0, .int .i64 0, .slice (some ⟨w.heap.size + 1, 0, none⟩) 1 1,
      .int .i64 2, .string ⟨#[]⟩, .string ⟨#[120, 60]⟩, .slice none 0 0, .int .i64 1, .slice none 0 0] 45) = W0 := ⟨_, rfl⟩
  have hrd : RdF W0.heap.size W0 (.slice (some ⟨w.heap.size + 1 + 1, 0, none⟩) 3 3) demoF := by
    rw [← hW0]
    exact demo_rd _ w.heap.size (w.heap.size + 1) (w.heap.size + 1 + 1) (heap_old (heap_old (World.alloc_heap_new _ _))) (heap_old (heap_new (by simp))) (heap_new (by simp))
  have hb0 : Below w.heap.size w W0 := by rw [← hW0]; exact (((Below.refl _ _).alloc (Nat.le_refl _) _).alloc (by simp) _).alloc (by simp; omega) _
  rw [hW0]
  have hr := fun w' (hb : Below W0.heap.size W0 w') => (hrd.below nodeE_keeps (w' := w') hb (Nat.le_refl _)).mono nodeE_keeps hb.size
  have h1 := fun w' hb => FMay.May_calls w' _ demoF (hr w' hb) demo_kids
  have h2 := fun w' hb => Pr.Print_calls w' _ demoF 0 (hr w' hb) demo_kids
  have h3 := fun w' hb => FBelow.Below_calls w' _ demoF 0 2 (hr w' hb) demo_kids
  have h4 := fun w' hb => FTops.Tops_calls w' _ demoF (hr w' hb) demo_kids
  rw [demo_may] at h1 h4
  rw [demo_print] at h2
  rw [demo_below] at h3
  rw [if_pos rfl, demo_tops] at h4
  have hs : ∀ w' A c, RdF w'.heap.size w' (.slice A 1 c) FNew.newF → Calls Try.prog 29 #[.slice A 1 c, .slice (some ⟨w'.heap.size, 0, none⟩) 1 1] (w'.alloc (.cells #[.int .i64 0, .string ⟨#[]⟩, .string ⟨#[]⟩, .slice none 0 0, .int .i64 (-1), .slice none 0 0] 45)) fun e w'' => e = .returned (.bool true) ∧ Below (w'.alloc (.cells #[.int .i64 0, .string ⟨#[]⟩, .string ⟨#[]⟩, .slice none 0 0, .int .i64 (-1), .slice none 0 0] 45)).heap.size (w'.alloc (.cells #[.int .i64 0, .string ⟨#[]⟩, .string ⟨#[]⟩, .slice none 0 0, .int .i64 (-1), .slice none 0 0] 45)) w'' := fun w' A c hr => by
    have := FSameF.Same_calls (w'.alloc (.cells #[.int .i64 0, .string ⟨#[]⟩, .string ⟨#[]⟩, .slice none 0 0, .int .i64 (-1), .slice none 0 0] 45)) _ _ FNew.newF FNew.newF ((hr.below nodeE_keeps ((Below.refl _ _).alloc (Nat.le_refl _) _) (Nat.le_refl _)).mono nodeE_keeps (by simp)) (new1_rd _ w'.heap.size (World.alloc_heap_new _ _))
    simpa using this
  have H1 := Lib.hid h1; have H2 := Lib.hid h2; have H3 := Lib.hid h3; have H4 := Lib.hid h4; have HS := Lib.hid hs; have HB0 := Lib.hid hb0
  have htok : Hid True := Lib.hid trivial
  clear h1 h2 h3 h4 hs hb0 hrd hr hW0
  go_wp2_with (first
    | (go_at_call 32; (with_reducible refine (H1.out _ (Below.refl _ _)).mono ?_); rintro e w5 ⟨rfl, hb5⟩; have Hb5 := Lib.hid hb5; clear hb5)
    | (go_at_call 35; (with_reducible refine (H2.out _ Hb5.out).mono ?_); rintro e w6 ⟨rfl, hb6⟩; have Hb6 := Lib.hid (bthen Hb5.out hb6); clear hb6)
    | (go_at_call 34; (with_reducible refine (H3.out _ Hb6.out).mono ?_); rintro e w7 ⟨rfl, hb7⟩; have Hb7 := Lib.hid (bthen Hb6.out hb7); clear hb7)
    | (go_at_call 33; (with_reducible refine (H4.out _ Hb7.out).mono ?_); rintro e w8 ⟨v8, rfl, ho8, hb8⟩; obtain ⟨A8, c8, rfl⟩ := slice_of ho8; have Hb8 := Lib.hid (bthen Hb7.out hb8); clear hb8 ho8)
    | (go_at_call 36; have _t := htok; (with_reducible refine (new1_calls _).mono ?_); rintro e w9 ⟨A9, c9, rfl, hr9, hb9⟩; have HS9 := Lib.hid (HS.out w9 A9 c9 hr9); have Hb9 := Lib.hid (bthen Hb8.out hb9); clear hb9 hr9 htok _t)
    | (go_at_call 29; (with_reducible refine (HS9.out).mono ?_); rintro e w10 ⟨rfl, hb10⟩; have Hb10 := Lib.hid (bthen (Hb9.out.alloc Hb9.out.size _) hb10); clear hb10)
    | (go_at_call 36; (with_reducible refine (new1_calls _).mono ?_); rintro e w11 ⟨A11, c11, rfl, hr11, hb11⟩; have Hb11 := Lib.hid (bthen Hb10.out hb11); clear hb11 hr11))
  go_ret
  exact ⟨rfl, HB0.out.trans (Hb11.out.mono HB0.out.size)⟩
end Go.Proofs.Ytbbompmpecblgaa.LShown
