/- forest.May. -/
import Derived.Test.YtbbompmpecblgaaFClimbs
import Derived.Test.YtbbompmpecblgaaFPlain
namespace Go.Proofs.Ytbbompmpecblgaa.FMay
open Go Go.RowKit Go.Proofs.Ytbbompmpecblgaa.Seq Go.Proofs.Ytbbompmpecblgaa.WS Go.Proofs.Ytbbompmpecblgaa.FS Go.Proofs.Ytbbompmpecblgaa.WordIt Go.Proofs.Ytbbompmpecblgaa.Mem Go.Proofs.Ytbbompmpecblgaa.Rd Go.Proofs.Ytbbompmpecblgaa.Word Go.Proofs.Ytbbompmpecblgaa.WordHas Go.Proofs.Ytbbompmpecblgaa.Shapes Go.Proofs.Ytbbompmpecblgaa.FFam
set_option linter.unusedVariables false
set_option linter.unusedSimpArgs false

theorem family_parents {f : Fo} (h : familyB f = true) (i : Nat) (hi : i < f.length) : -1 ≤ (at_ f i).parent ∧ (at_ f i).parent < f.length := by
  unfold familyB at h
  rw [Bool.and_eq_true, List.all_eq_true, List.all_eq_true] at h
  have := h.2 i (List.mem_range.2 hi)
  unfold parentB at this
  simp only [Bool.and_eq_true, decide_eq_true_eq] at this
  exact ⟨this.1.1, this.1.2⟩
/-- Node by node. -/
def nodeB (f : Fo) (id : Nat) : Bool := plainB (at_ f id) && (decide ((at_ f id).kind = 0) == decide (id = 0))
theorem may_false_node {f : Fo} {i : Nat} (hi : i < f.length) (h : nodeB f i = false) : mayB f = false := by
  have : (List.range f.length).all (fun id => plainB (at_ f id) && (decide ((at_ f id).kind = 0) == decide (id = 0))) = false := by
    rw [List.all_eq_false]
    exact ⟨i, List.mem_range.2 hi, by rw [show (plainB (at_ f i) && (decide ((at_ f i).kind = 0) == decide (i = 0))) = false from h]; simp⟩
  unfold mayB
  rw [this]; simp
theorem may_rest {f : Fo} (h1 : 1 ≤ f.length) (h2 : f.length ≤ 60) (h3 : (at_ f 0).parent = -1) (h : ∀ i, i < f.length → nodeB f i = true) : mayB f = (familyB f && climbsB f) := by
  unfold mayB
  rw [decide_eq_true h1, decide_eq_true h2, decide_eq_true h3, List.all_eq_true.2 (fun i hi => by rw [List.mem_range] at hi; exact h i hi)]
  simp
theorem may_false_len {f : Fo} (h : ¬ (1 ≤ f.length ∧ f.length ≤ 60)) : mayB f = false := by
  unfold mayB
  by_cases h1 : 1 ≤ f.length
  · rw [decide_eq_false (show ¬ f.length ≤ 60 from fun h2 => h ⟨h1, h2⟩)]; simp
  · rw [decide_eq_false h1]; simp
theorem may_false_par {f : Fo} (h : (at_ f 0).parent ≠ -1) : mayB f = false := by
  unfold mayB
  rw [decide_eq_false h]; simp
set_option maxRecDepth 100000 in
set_option maxHeartbeats 4000000 in
theorem May_calls (w : World) (v : Value) (f : Fo) (h : RdF w.heap.size w v f) (hkm : ∀ n ∈ f, n.kids.length ≤ 1000) :
    Calls Try.prog 32 #[v] w fun e w' => e = .returned (.bool (mayB f)) ∧ Below w.heap.size w w' := by
  have HR := Lib.hid (fun w' hb => h.below nodeE_keeps (w' := w') hb (Nat.le_refl _))
  have hRW := h
  obtain ⟨A0, c0, rfl, hl0, hc0, _⟩ := h.form
  have hc0' := hc0
  simp only [maxLen] at hc0
  by_cases hlen : 1 ≤ f.length ∧ f.length ≤ 60
  case neg =>
    have hm := may_false_len hlen
    have Hm := Lib.hid hm; clear hm h hRW
    by_cases h0 : f.length = 0
    · rw [h0] at *
      clear hlen
      go_enter Try.func32, Try.ntmps32
      go_wp2_with fail
      go_ret
      exact ⟨ret_bool Hm.out.symm, Below.refl _ _⟩
    · have hn0 : ((f.length : Int) == 0) = false := by rw [beq_eq_false_iff_ne]; omega
      have h60 : 60 < f.length := by omega
      clear hlen
      go_enter Try.func32, Try.ntmps32
      go_wp2_with fail
      go_ret
      exact ⟨ret_bool Hm.out.symm, Below.refl _ _⟩
  case pos =>
    obtain ⟨hlen1, hlen2⟩ := hlen
    have hn0 : ((f.length : Int) == 0) = false := by rw [beq_eq_false_iff_ne]; omega
    obtain ⟨b, o, _, _, _, _, rfl, hbB, _, _, _, _, n4, _⟩ := node_at hRW (show 0 < f.length by omega)
    rw [← at_nat (show 0 < f.length by omega), Nat.zero_mul, Nat.add_zero] at n4
    have hm0 := may_false_par (f := f)
    have hmr := may_rest hlen1 hlen2
    have e1 : ((at_ f (0 : Nat)).parent == -1) = decide ((at_ f (0 : Nat)).parent = -1) := rfl
    have e2 : ((at_ f (0 : Nat)).parent != -1) = !decide ((at_ f (0 : Nat)).parent = -1) := rfl
    have Hkm := Lib.hid hkm
    clear h hRW hkm
    by_cases hp0 : (at_ f (0 : Nat)).parent = -1
    case neg =>
      have Hm := Lib.hid (hm0 hp0)
      rw [decide_eq_false hp0] at e1 e2
      simp only [Bool.not_false] at e2
      generalize (at_ f (0 : Nat)).parent = pr at *
      clear hm0 hmr hp0
      go_enter Try.func32, Try.ntmps32
      go_wp2_with fail
      go_ret
      exact ⟨ret_bool Hm.out.symm, Below.refl _ _⟩
    case pos =>
      have hmr := hmr hp0
      rw [hp0] at n4
      have Hmr := Lib.hid hmr
      clear hm0 hmr hp0 e1 e2
      go_enter Try.func32, Try.ntmps32
      go_wp2_with fail
      clear n4
      go_loopw [22] (fun i wr => ∃ k : Nat, k ≤ f.length ∧ i = .int .i64 k ∧ Below w.heap.size w wr ∧ ∀ j, j < k → nodeB f j = true) (fun i _ => f.length - (intOf i).toNat)
      case atStart => exact ⟨0, Nat.zero_le _, rfl, Below.refl _ _, fun j hj => by omega⟩
      case round =>
        obtain ⟨k, hk, rfl, h1, h2⟩ := hrel
        by_cases hlt : k < f.length
        · obtain ⟨b', o', Aa, ca, Ak, ck, he, hbl, g0, g1, g2, g3, g4, g5, ra, rk, la, lca, lk, lck, m1, m2, m3, m4⟩ := node_at (HR.out _ h1) hlt
          simp only [Option.some.injEq, Addr.mk.injEq, and_true] at he
          obtain ⟨rfl, rfl⟩ := he
          have hbx := h1.alloc h1.size (.cells #[.int .i64 f[k].kind, .string f[k].name, .string f[k].text, .slice Aa f[k].attrs.length ca, .int .i64 f[k].parent, .slice Ak f[k].kids.length ck] 45)
          have hpl := FPlain.plain_calls (wr.alloc (.cells #[.int .i64 f[k].kind, .string f[k].name, .string f[k].text, .slice Aa f[k].attrs.length ca, .int .i64 f[k].parent, .slice Ak f[k].kids.length ck] 45)) f[k].kind f[k].parent f[k].name f[k].text f[k].attrs f[k].kids _ _
            ((ra.keep attrE_keeps ((Below.refl w.heap.size wr).alloc h1.size _) (Nat.le_refl _)).mono attrE_keeps (Nat.le_trans h1.size (by simp))) ((rk.keep (intE_keeps _) ((Below.refl w.heap.size wr).alloc h1.size _) (Nat.le_refl _)).mono (intE_keeps _) (Nat.le_trans h1.size (by simp)))
          have hbc : (wr.alloc (.cells #[.int .i64 f[k].kind, .string f[k].name, .string f[k].text, .slice Aa f[k].attrs.length ca, .int .i64 f[k].parent, .slice Ak f[k].kids.length ck] 45)).cell? ⟨wr.heap.size, 0, none⟩ = some (.int .i64 f[k].kind) := by rw [cell_of_row _ _ _ _ 45 (0, 0) (heap_alloc_new wr _)]; rfl
          have hnd : nodeB f k = (plainB f[k] && (decide (f[k].kind = 0) == decide (k = 0))) := by unfold nodeB; rw [at_nat hlt]
          have hbad : nodeB f k = false → mayB f = false := may_false_node hlt
          have hgood : nodeB f k = true → ∀ j, j < k + 1 → nodeB f j = true := fun h j hj => by
            by_cases e : j = k
            · subst e; exact h
            · exact h2 j (by omega)
          rw [hnd] at hbad hgood
          have ek : (f[k].kind == 0) = decide (f[k].kind = 0) := rfl
          have ez : ((k : Int) == 0) = decide (k = 0) := by rw [Bool.eq_iff_iff]; simp
          have Hbc := Lib.hid hbc; have Hbx := Lib.hid hbx; have Hpl := Lib.hid hpl; have H1 := Lib.hid h1; have H2 := Lib.hid h2
          have hpe : plainB f[k] = plainB ⟨f[k].kind, f[k].name, f[k].text, f[k].attrs, f[k].parent, f[k].kids⟩ := rfl
          rw [hpe] at hbad hgood
          clear h1 h2 ra rk hbx hpl hbc m1 m2 m3 m4 hnd hpe
          generalize f[k] = nd at *
          obtain ⟨kd, nm, tx, at_', pr, kd_⟩ := nd
          simp only at *
          generalize hpb : plainB ⟨kd, nm, tx, at_', pr, kd_⟩ = pb at *
          generalize decide (kd = 0) = b0 at *
          generalize decide (k = 0) = b1 at *
          cases pb
          · have Hff := Lib.hid (hbad rfl)
            clear hbad hgood hpb
            go_wp2_with (go_at_call 65; with_reducible refine (Hpl.out).mono ?_; rintro e w5 ⟨rfl, hb5⟩; have Hb5 := Lib.hid hb5; clear hb5)
            go_ret
            exact ⟨ret_bool Hff.out.symm, bthen Hbx.out Hb5.out⟩
          · cases b0 <;> cases b1
            case' false.true => have Hff := Lib.hid (hbad rfl)
            case' true.false => have Hff := Lib.hid (hbad rfl)
            case' false.false => have Hgg := Lib.hid (hgood rfl)
            case' true.true => have Hgg := Lib.hid (hgood rfl)
            all_goals
              clear hbad hgood hpb
              go_wp2_with (go_at_call 65; with_reducible refine (Hpl.out).mono ?_; rintro e w5 ⟨rfl, hb5⟩; have gb := cell_grow hb5 Hbc.out; have Hb5 := Lib.hid hb5; clear hb5)
            all_goals first
              | (go_ret; exact ⟨ret_bool Hff.out.symm, bthen Hbx.out Hb5.out⟩)
              | (go_roundw; (case rel => exact ⟨k + 1, by omega, by go_num, bthen Hbx.out Hb5.out, Hgg.out⟩); (case measure => simp [intOf]; omega))
        · obtain rfl : k = f.length := by omega
          have hmv := Hmr.out h2
          have H1 := Lib.hid h1
          have hfm := fun w' hb => FFam.family_calls w' (.slice (some ⟨b, o, none⟩) f.length c0) f ((HR.out w' hb).mono nodeE_keeps hb.size) hlen2 Hkm.out
          have Hfm := Lib.hid hfm
          cases hfb : familyB f with
          | false =>
            rw [hfb, Bool.false_and] at hmv
            rw [hfb] at Hfm
            have Hmv := Lib.hid hmv
            clear h1 h2 hmv hfm hfb
            go_wp2_with (go_at_call 66; with_reducible refine (Hfm.out _ H1.out).mono ?_; rintro e w5 ⟨rfl, hb5⟩; have Hb5 := Lib.hid hb5; clear hb5)
            go_ret
            exact ⟨ret_bool Hmv.out.symm, bthen H1.out Hb5.out⟩
          | true =>
            have hcm := fun w' hb => FClimbs.climbs_calls w' (.slice (some ⟨b, o, none⟩) f.length c0) f ((HR.out w' hb).mono nodeE_keeps hb.size) hlen2 (family_parents hfb)
            rw [hfb, Bool.true_and] at hmv
            rw [hfb] at Hfm
            generalize climbsB f = cb at *
            have Hcm := Lib.hid hcm
            have Hmv := Lib.hid hmv
            clear h1 h2 hmv hfm hfb hcm
            go_wp2_with (first
              | (go_at_call 66; with_reducible refine (Hfm.out _ H1.out).mono ?_; rintro e w5 ⟨rfl, hb5⟩; have Hb5 := Lib.hid hb5; clear hb5)
              | (go_at_call 67; with_reducible refine (Hcm.out _ (bthen H1.out Hb5.out)).mono ?_; rintro e w6 ⟨rfl, hb6⟩; have Hb6 := Lib.hid hb6; clear hb6))
            go_ret
            exact ⟨ret_bool Hmv.out.symm, bthen (bthen H1.out Hb5.out) Hb6.out⟩
end Go.Proofs.Ytbbompmpecblgaa.FMay
