/- ForestSame. -/
import Derived.Test.YtbbompmpecblgaaIts
namespace Go.Proofs.Ytbbompmpecblgaa.LSame
open Go Go.RowKit Go.Proofs.Ytbbompmpecblgaa.Seq Go.Proofs.Ytbbompmpecblgaa.WS Go.Proofs.Ytbbompmpecblgaa.FS Go.Proofs.Ytbbompmpecblgaa.Mem Go.Proofs.Ytbbompmpecblgaa.Rd Go.Proofs.Ytbbompmpecblgaa.Shapes Go.Proofs.Ytbbompmpecblgaa.Word Go.Proofs.Ytbbompmpecblgaa.FFam Go.Proofs.Ytbbompmpecblgaa.LBnd Go.Proofs.Ytbbompmpecblgaa.OwnF
set_option linter.unusedVariables false
set_option linter.unusedSimpArgs false
theorem bnd_attrs {f : Fo} (h : bndB f = true) : ∀ n ∈ f, n.attrs.length ≤ 1000 := by
  intro n hn
  unfold bndB at h
  rw [Bool.and_eq_true, List.all_eq_true] at h
  have := h.1 n hn
  unfold ndB at this
  rw [Bool.and_eq_true, decide_eq_true_eq] at this
  omega
set_option maxRecDepth 100000 in
set_option maxHeartbeats 4000000 in
theorem law_calls (w : World) (fa : Fo) (va : Value) (ha : RdF w.heap.size w va fa) (fb : Fo) (vb : Value) (hb : RdF w.heap.size w vb fb) :
    Calls Try.prog 8 #[va, vb] w fun e w' => e = .returned (.bool true) ∧ Below w.heap.size w w' := by
  have hba := bounded_calls w va fa ha
  have hbb := bounded_calls w vb fb hb
  obtain ⟨A0, c0, rfl, _, _, ha'⟩ := ha.form
  obtain ⟨A1, c1, rfl, _, _, hb'⟩ := hb.form
  have hra := fun w' (hx : Below w.heap.size w w') => (ha'.below nodeE_keeps (w' := w') hx (Nat.le_refl _)).mono nodeE_keeps hx.size
  have hrb := fun w' (hx : Below w.heap.size w w') => (hb'.below nodeE_keeps (w' := w') hx (Nat.le_refl _)).mono nodeE_keeps hx.size
  clear ha hb ha' hb'
  cases hB : bndB fa with
  | false =>
    rw [hB] at hba
    have Hba := Lib.hid hba
    clear hba hbb hra hrb
    go_enter Try.func8, Try.ntmps8
    go_wp2_with (first | (go_at_call 27; (with_reducible refine (Hba.out).mono ?_); rintro e w5 ⟨rfl, rfl⟩) | (go_at_call 28; (with_reducible refine (LShown.shown_calls _).mono ?_); rintro e w6 ⟨rfl, hb6⟩; have Hb6 := Lib.hid hb6; clear hb6))
    go_ret
    exact ⟨rfl, Hb6.out⟩
  | true =>
    cases hB2 : bndB fb with
    | false =>
      rw [hB] at hba
      rw [hB2] at hbb
      have Hba := Lib.hid hba; have Hbb := Lib.hid hbb
      clear hba hbb hra hrb
      go_enter Try.func8, Try.ntmps8
      go_wp2_with (first | (go_at_call 27; (with_reducible refine (Hba.out).mono ?_); rintro e w5 ⟨rfl, rfl⟩; clear Hba) | (go_at_call 27; (with_reducible refine (Hbb.out).mono ?_); rintro e w5 ⟨rfl, rfl⟩) | (go_at_call 28; (with_reducible refine (LShown.shown_calls _).mono ?_); rintro e w6 ⟨rfl, hb6⟩; have Hb6 := Lib.hid hb6; clear hb6))
      go_ret
      exact ⟨rfl, Hb6.out⟩
    | true =>
      have hla := bnd_len hB
      have hlb := bnd_len hB2
      have hka := bnd_attrs hB
      have hkb := bnd_attrs hB2
      rw [hB] at hba
      rw [hB2] at hbb
      have hs1 := fun w' hx => FSameF.Same_calls w' _ _ fa fb (hra w' hx) (hrb w' hx)
      have hs2 := fun w' hx => FSameF.Same_calls w' _ _ fa fa (hra w' hx) (hra w' hx)
      have hi1 := fun w' hx => Its.its_calls w' _ fa (hra w' hx) (by omega) hka
      have hi2 := fun w' hx => Its.its_calls w' _ fb (hrb w' hx) (by omega) hkb
      have hr : ∀ w' u1 u2, RdF w'.heap.size w' u1 fa → RdF w'.heap.size w' u2 fb → Calls Try.prog 30 #[u1, u2] w' fun e w'' => e = .returned (.bool (decide (fa = fb))) ∧ Below w'.heap.size w' w'' := fun w' u1 u2 h1 h2 => FSameR.RefSame_calls w' u1 u2 fa fb h1 h2
      rw [decide_eq_true rfl] at hs2
      generalize decide (fa = fb) = d at *
      have Hba := Lib.hid hba; have Hbb := Lib.hid hbb; have Hs1 := Lib.hid hs1; have Hs2 := Lib.hid hs2; have Hi1 := Lib.hid hi1; have Hi2 := Lib.hid hi2; have Hr := Lib.hid hr
      have htok : Hid True := Lib.hid trivial
      clear hba hbb hra hrb hs1 hs2 hi1 hi2 hr hka hkb hB hB2
      go_enter Try.func8, Try.ntmps8
      go_wp2_with (first
        | (go_at_call 27; (with_reducible refine (Hba.out).mono ?_); rintro e w5 ⟨rfl, rfl⟩; clear Hba)
        | (go_at_call 27; (with_reducible refine (Hbb.out).mono ?_); rintro e w5 ⟨rfl, rfl⟩)
        | (go_at_call 28; (with_reducible refine (LShown.shown_calls _).mono ?_); rintro e w6 ⟨rfl, hb6⟩; have Hb6 := Lib.hid hb6; clear hb6)
        | (go_at_call 29; have _t := htok; (with_reducible refine (Hs1.out _ Hb6.out).mono ?_); rintro e w7 ⟨rfl, hb7⟩; have Hb7 := Lib.hid (bthen Hb6.out hb7); clear hb7 htok _t)
        | (go_at_call 31; (with_reducible refine (Hi1.out _ Hb7.out).mono ?_); rintro e w8 ⟨u8, rfl, hO8, hb8⟩; have HO8 := Lib.hid hO8; have Hb8 := Lib.hid (bthen Hb7.out hb8); clear hb8 hO8 Hi1)
        | (go_at_call 31; (with_reducible refine (Hi2.out _ Hb8.out).mono ?_); rintro e w9 ⟨u9, rfl, hO9, hb9⟩; have hR := Hr.out _ _ _ (HO8.out.below hb9).rd hO9.rd; have HR := Lib.hid hR; have Hb9 := Lib.hid (bthen Hb8.out hb9); clear hb9 hO9 hR)
        | (go_at_call 30; (with_reducible refine (HR.out).mono ?_); rintro e w10 ⟨rfl, hb10⟩; have Hb10 := Lib.hid (bthen Hb9.out hb10); clear hb10)
        | (go_at_call 29; (with_reducible refine (Hs2.out _ Hb10.out).mono ?_); rintro e w11 ⟨rfl, hb11⟩; have Hb11 := Lib.hid (bthen Hb10.out hb11); clear hb11))
      go_ret
      exact ⟨rfl, Hb11.out⟩
end Go.Proofs.Ytbbompmpecblgaa.LSame
