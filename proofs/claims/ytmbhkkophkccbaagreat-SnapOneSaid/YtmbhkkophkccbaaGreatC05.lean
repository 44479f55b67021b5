import Derived.Maps.AppendAt
import Derived.Deep.QuietTactic
import Derived.BigQuiet
import Derived.Test.YtmbhkkophkccbaaGreatC04
import Derived.Test.YtmbhkkophkccbaaGreatC02
section
namespace Go.Proofs.YtmbhkkophkccbaaGreat.FPlain
open Go Go.RowKit Go.Proofs.YtmbhkkophkccbaaGreat.Seq WS FS WordIt Mem Rd Word WordHas Shapes
set_option linter.unusedVariables false
set_option linter.unusedSimpArgs false

theorem empty_iff (s : ByteArray) : s.toList.isEmpty = decide (s.size = 0) := by
 rw [Bool.eq_iff_iff, Lib.toList_data, List.isEmpty_iff, decide_eq_true_eq, Lib.size_eq]
 exact List.length_eq_zero_iff.symm
theorem len0 {α : Type} (l : List α) : decide (l = ([] : List α)) = decide (l.length = 0) := by
 rw [decide_eq_decide]; exact List.length_eq_zero_iff.symm
set_option maxRecDepth 100000 in
set_option maxHeartbeats 4000000 in
theorem plain_calls (w : World) (kind parent : Int) (name text : ByteArray) (attrs : List Av) (kids : List Int) (va vk : Value) (ha : RdL attrE 2 w.heap.size w va attrs) (hk : RdL (intE .i64) 1 w.heap.size w vk kids) :
  Calls Tryz.prog 101 #[.agg #[.int .i64 kind, .string name, .string text, va, .int .i64 parent, vk]] w fun e w' => e = .returned (.bool (plainB ⟨kind, name, text, attrs, parent, kids⟩)) ∧ Below w.heap.size w w' := by
 have HA := Lib.hid (fun w' hb => ha.below attrE_keeps (w' := w') hb (Nat.le_refl _))
 obtain ⟨A0, c0, rfl, hl0, hc0, _⟩ := ha.form
 obtain ⟨A1, c1, rfl, hl1, hc1, _⟩ := hk.form
 clear ha hk
 have hat : ∀ w1, Below w.heap.size w w1 → Calls Tryz.prog 152 #[.slice A0 attrs.length c0] w1 fun e w' => e = .returned (.bool (attrsB attrs)) ∧ Below w1.heap.size w1 w' := fun w1 hb =>
  FAttr.attributes_calls w1 _ _ ((HA.out w1 hb).mono attrE_keeps hb.size)
 have Hat := Lib.hid hat; clear hat
 have e2 : (kind == 2) = decide (kind = 2) := rfl
 have e3 : (kind == 3) = decide (kind = 3) := rfl
 have e0 : (kind == 0) = decide (kind = 0) := rfl
 have e1 : (kind == 1) = decide (kind = 1) := rfl
 have n0 := empty_iff name
 have t0 := empty_iff text
 have a0 := len0 attrs
 have k0 := len0 kids
 have hN : ∀ w, Calls Tryz.prog 151 #[.string name] w fun e w' => e = .returned (.bool (nameB name.data.toList)) ∧ w = w' := fun w => Name_calls _ w
 have hT : ∀ w, Calls Tryz.prog 150 #[.string text] w fun e w' => e = .returned (.bool (textB text.data.toList)) ∧ w = w' := fun w => Text_calls _ w
 have HN := Lib.hid hN; have HT := Lib.hid hT
 clear hN hT
 have hcase : kind = 0 ∨ kind = 1 ∨ (kind = 2 ∨ kind = 3) ∨ (kind ≠ 0 ∧ kind ≠ 1 ∧ kind ≠ 2 ∧ kind ≠ 3) := by omega
 have hp : plainB ⟨kind, name, text, attrs, parent, kids⟩ = if kind = 0 then decide (name.size = 0) && decide (text.size = 0) && decide (attrs.length = 0) else if kind = 1 then nameB name.data.toList && decide (text.size = 0) && attrsB attrs
   else if kind = 2 ∨ kind = 3 then decide (name.size = 0) && textB text.data.toList && decide (attrs.length = 0) && decide (kids.length = 0) else false := by
  unfold plainB; rw [a0, k0]
 rw [hp]
 clear hp a0 k0
 rcases hcase with rfl | rfl | h | ⟨h0, h1, h2, h3⟩
 ·clear e0 e1 e2 e3
  rw [if_pos rfl]
  go_enter Tryz.func101, Tryz.ntmps101
  go_wp2
  all_goals
   go_ret
   refine ⟨ret_bool ?_, (Below.refl _ _).alloc (Nat.le_refl _) _⟩
   rw [Bool.eq_iff_iff]
   simp_all
 ·clear e0 e1 e2 e3
  rw [if_neg (by decide), if_pos rfl]
  generalize hnn : nameB name.data.toList = nn at *
  have Hnn := Lib.hid hnn; clear hnn
  go_enter Tryz.func101, Tryz.ntmps101
  go_wp2_with (first
   | (go_at_call 151; refine (HN.out _).mono ?_; rintro e w5 ⟨rfl, rfl⟩)
   | (go_at_call 152; refine (Hat.out _ ((Below.refl _ _).alloc (Nat.le_refl _) _)).mono ?_; rintro e w6 ⟨rfl, hb6⟩; have Hb6 := Lib.hid hb6; clear hb6))
  all_goals
   go_ret
   refine ⟨ret_bool ?_, by first | exact bthen ((Below.refl _ _).alloc (Nat.le_refl _) _) Hb6.out | exact (Below.refl _ _).alloc (Nat.le_refl _) _⟩
   rw [Bool.eq_iff_iff]
   simp_all
 ·have h0 : kind ≠ 0 := by omega
  have h1 : kind ≠ 1 := by omega
  rw [if_neg h0, if_neg h1, if_pos h]
  rw [decide_eq_false h0] at e0
  rw [decide_eq_false h1] at e1
  generalize htt : textB text.data.toList = tt at *
  have Htt := Lib.hid htt; clear htt
  rcases h with rfl | rfl
  all_goals
   clear e0 e1 e2 e3 h0 h1
   go_enter Tryz.func101, Tryz.ntmps101
   go_wp2_with (go_at_call 150; refine (HT.out _).mono ?_; rintro e w5 ⟨rfl, rfl⟩)
   all_goals
    go_ret
    refine ⟨ret_bool ?_, by first | exact ((Below.refl _ _).alloc (Nat.le_refl _) _).setCell (by simp) _ | exact (Below.refl _ _).alloc (Nat.le_refl _) _⟩
    rw [Bool.eq_iff_iff]
    simp_all
    try (intro _ _ hkk; subst hkk; simp at *)
 ·rw [if_neg h0, if_neg h1, if_neg (by omega)]
  rw [decide_eq_false h0] at e0
  rw [decide_eq_false h1] at e1
  rw [decide_eq_false h2] at e2
  rw [decide_eq_false h3] at e3
  go_enter Tryz.func101, Tryz.ntmps101
  go_wp2
  go_ret
  exact ⟨rfl, (Below.refl _ _).alloc (Nat.le_refl _) _⟩
end Go.Proofs.YtmbhkkophkccbaaGreat.FPlain
end
section
namespace Go.Proofs.YtmbhkkophkccbaaGreat.FMay
open Go Go.RowKit Go.Proofs.YtmbhkkophkccbaaGreat.Seq WS FS WordIt Mem Rd Word WordHas Shapes FFam
set_option linter.unusedVariables false
set_option linter.unusedSimpArgs false

theorem family_parents {f : Fo} (h : familyB f = true) (i : Nat) (hi : i < f.length) : -1 ≤ (at_ f i).parent ∧ (at_ f i).parent < f.length := by
 unfold familyB at h
 rw [Bool.and_eq_true, List.all_eq_true, List.all_eq_true] at h
 have := h.2 i (List.mem_range.2 hi)
 unfold parentB at this
 simp only [Bool.and_eq_true, decide_eq_true_eq] at this
 exact ⟨this.1.1, this.1.2⟩
def nodeB (f : Fo) (id : Nat) : Bool := plainB (at_ f id) && (decide ((at_ f id).kind = 0) == decide (id = 0))
theorem may_false_node {f : Fo} {i : Nat} (hi : i < f.length) (h : nodeB f i = false) : mayB f = false := by
 have : (List.range f.length).all (fun id => plainB (at_ f id) && (decide ((at_ f id).kind = 0) == decide (id = 0))) = false := by
  rw [List.all_eq_false]
  exact ⟨i, List.mem_range.2 hi, by rw [show (plainB (at_ f i) && (decide ((at_ f i).kind = 0) == decide (i = 0))) = false from h]; simp⟩
 unfold mayB
 rw [this]; simp
theorem may_rest {f : Fo} (h1 : 1 ≤ f.length) (h2 : f.length ≤ 60) (h3 : (at_ f 0).parent = -1) (h : ∀ i, i < f.length → nodeB f i = true) : mayB f = (familyB f && climbsB f) := by
 unfold mayB
 rw [decide_eq_true h1, decide_eq_true h2, decide_eq_true h3, List.all_eq_true.2 (fun i hi => by rw [List.mem_range] at hi; exact h i hi)]
 simp
theorem may_false_len {f : Fo} (h : ¬ (1 ≤ f.length ∧ f.length ≤ 60)) : mayB f = false := by
 unfold mayB
 by_cases h1 : 1 ≤ f.length
 ·rw [decide_eq_false (show ¬ f.length ≤ 60 from fun h2 => h ⟨h1, h2⟩)]; simp
 ·rw [decide_eq_false h1]; simp
theorem may_false_par {f : Fo} (h : (at_ f 0).parent ≠ -1) : mayB f = false := by
 unfold mayB
 rw [decide_eq_false h]; simp
set_option maxRecDepth 100000 in
set_option maxHeartbeats 4000000 in
theorem May_calls (w : World) (v : Value) (f : Fo) (h : RdF w.heap.size w v f) (hkm : ∀ n ∈ f, n.kids.length ≤ 1000) :
  Calls Tryz.prog 42 #[v] w fun e w' => e = .returned (.bool (mayB f)) ∧ Below w.heap.size w w' := by
 have HR := Lib.hid (fun w' hb => h.below nodeE_keeps (w' := w') hb (Nat.le_refl _))
 have hRW := h
 obtain ⟨A0, c0, rfl, hl0, hc0, _⟩ := h.form
 have hc0' := hc0
 simp only [maxLen] at hc0
 by_cases hlen : 1 ≤ f.length ∧ f.length ≤ 60
 case neg =>
  have hm := may_false_len hlen
  have Hm := Lib.hid hm; clear hm h hRW
  by_cases h0 : f.length = 0
  ·rw [h0] at *
   clear hlen
   go_enter Tryz.func42, Tryz.ntmps42
   go_wp2_with fail
   go_ret
   exact ⟨ret_bool Hm.out.symm, Below.refl _ _⟩
  ·have hn0 : ((f.length : Int) == 0) = false := by rw [beq_eq_false_iff_ne]; omega
   have h60 : 60 < f.length := by omega
   clear hlen
   go_enter Tryz.func42, Tryz.ntmps42
   go_wp2_with fail
   go_ret
   exact ⟨ret_bool Hm.out.symm, Below.refl _ _⟩
 case pos =>
  obtain ⟨hlen1, hlen2⟩ := hlen
  have hn0 : ((f.length : Int) == 0) = false := by rw [beq_eq_false_iff_ne]; omega
  obtain ⟨b, o, _, _, _, _, rfl, hbB, _, _, _, _, n4, _⟩ := node_at hRW (show 0 < f.length by omega)
  rw [← at_nat (show 0 < f.length by omega), Nat.zero_mul, Nat.add_zero] at n4
  have hm0 := may_false_par (f := f)
  have hmr := may_rest hlen1 hlen2
  have e1 : ((at_ f (0 : Nat)).parent == -1) = decide ((at_ f (0 : Nat)).parent = -1) := rfl
  have e2 : ((at_ f (0 : Nat)).parent != -1) = !decide ((at_ f (0 : Nat)).parent = -1) := rfl
  have Hkm := Lib.hid hkm
  clear h hRW hkm
  by_cases hp0 : (at_ f (0 : Nat)).parent = -1
  case neg =>
   have Hm := Lib.hid (hm0 hp0)
   rw [decide_eq_false hp0] at e1 e2
   simp only [Bool.not_false] at e2
   generalize (at_ f (0 : Nat)).parent = pr at *
   clear hm0 hmr hp0
   go_enter Tryz.func42, Tryz.ntmps42
   go_wp2_with fail
   go_ret
   exact ⟨ret_bool Hm.out.symm, Below.refl _ _⟩
  case pos =>
   have hmr := hmr hp0
   rw [hp0] at n4
   have Hmr := Lib.hid hmr
   clear hm0 hmr hp0 e1 e2
   go_enter Tryz.func42, Tryz.ntmps42
   go_wp2_with fail
   clear n4
   go_loopw [22] (fun i wr => ∃ k : Nat, k ≤ f.length ∧ i = .int .i64 k ∧ Below w.heap.size w wr ∧ ∀ j, j < k → nodeB f j = true) (fun i _ => f.length - (intOf i).toNat)
   case atStart => exact ⟨0, Nat.zero_le _, rfl, Below.refl _ _, fun j hj => by omega⟩
   case round =>
    obtain ⟨k, hk, rfl, h1, h2⟩ := hrel
    by_cases hlt : k < f.length
    ·obtain ⟨b', o', Aa, ca, Ak, ck, he, hbl, g0, g1, g2, g3, g4, g5, ra, rk, la, lca, lk, lck, m1, m2, m3, m4⟩ := node_at (HR.out _ h1) hlt
     simp only [Option.some.injEq, Addr.mk.injEq, and_true] at he
     obtain ⟨rfl, rfl⟩ := he
     have hbx := h1.alloc h1.size (.cells #[.int .i64 f[k].kind, .string f[k].name, .string f[k].text, .slice Aa f[k].attrs.length ca, .int .i64 f[k].parent, .slice Ak f[k].kids.length ck] 50)
     have hpl := FPlain.plain_calls (wr.alloc (.cells #[.int .i64 f[k].kind, .string f[k].name, .string f[k].text, .slice Aa f[k].attrs.length ca, .int .i64 f[k].parent, .slice Ak f[k].kids.length ck] 50)) f[k].kind f[k].parent f[k].name f[k].text f[k].attrs f[k].kids _ _
      ((ra.keep attrE_keeps ((Below.refl w.heap.size wr).alloc h1.size _) (Nat.le_refl _)).mono attrE_keeps (Nat.le_trans h1.size (by simp))) ((rk.keep (intE_keeps _) ((Below.refl w.heap.size wr).alloc h1.size _) (Nat.le_refl _)).mono (intE_keeps _) (Nat.le_trans h1.size (by simp)))
     have hbc : (wr.alloc (.cells #[.int .i64 f[k].kind, .string f[k].name, .string f[k].text, .slice Aa f[k].attrs.length ca, .int .i64 f[k].parent, .slice Ak f[k].kids.length ck] 50)).cell? ⟨wr.heap.size, 0, none⟩ = some (.int .i64 f[k].kind) := by rw [cell_of_row _ _ _ _ 50 (0, 0) (heap_alloc_new wr _)]; rfl
     have hnd : nodeB f k = (plainB f[k] && (decide (f[k].kind = 0) == decide (k = 0))) := by unfold nodeB; rw [at_nat hlt]
     have hbad : nodeB f k = false → mayB f = false := may_false_node hlt
     have hgood : nodeB f k = true → ∀ j, j < k + 1 → nodeB f j = true := fun h j hj => by
      by_cases e : j = k
      ·subst e; exact h
      ·exact h2 j (by omega)
     rw [hnd] at hbad hgood
     have ek : (f[k].kind == 0) = decide (f[k].kind = 0) := rfl
     have ez : ((k : Int) == 0) = decide (k = 0) := by rw [Bool.eq_iff_iff]; simp
     have Hbc := Lib.hid hbc; have Hbx := Lib.hid hbx; have Hpl := Lib.hid hpl; have H1 := Lib.hid h1; have H2 := Lib.hid h2
     have hpe : plainB f[k] = plainB ⟨f[k].kind, f[k].name, f[k].text, f[k].attrs, f[k].parent, f[k].kids⟩ := rfl
     rw [hpe] at hbad hgood
     clear h1 h2 ra rk hbx hpl hbc m1 m2 m3 m4 hnd hpe
     generalize f[k] = nd at *
     obtain ⟨kd, nm, tx, at_', pr, kd_⟩ := nd
     simp only at *
     generalize hpb : plainB ⟨kd, nm, tx, at_', pr, kd_⟩ = pb at *
     generalize decide (kd = 0) = b0 at *
     generalize decide (k = 0) = b1 at *
     cases pb
     ·have Hff := Lib.hid (hbad rfl)
      clear hbad hgood hpb
      go_wp2_with (go_at_call 101; with_reducible refine (Hpl.out).mono ?_; rintro e w5 ⟨rfl, hb5⟩; have Hb5 := Lib.hid hb5; clear hb5)
      go_ret
      exact ⟨ret_bool Hff.out.symm, bthen Hbx.out Hb5.out⟩
     ·cases b0 <;> cases b1
      case' false.true => have Hff := Lib.hid (hbad rfl)
      case' true.false => have Hff := Lib.hid (hbad rfl)
      case' false.false => have Hgg := Lib.hid (hgood rfl)
      case' true.true => have Hgg := Lib.hid (hgood rfl)
      all_goals
       clear hbad hgood hpb
       go_wp2_with (go_at_call 101; with_reducible refine (Hpl.out).mono ?_; rintro e w5 ⟨rfl, hb5⟩; have gb := cell_grow hb5 Hbc.out; have Hb5 := Lib.hid hb5; clear hb5)
      all_goals first
       | (go_ret; exact ⟨ret_bool Hff.out.symm, bthen Hbx.out Hb5.out⟩)
       | (go_roundw; (case rel => exact ⟨k + 1, by omega, by go_num, bthen Hbx.out Hb5.out, Hgg.out⟩); (case measure => simp [intOf]; omega))
    ·obtain rfl : k = f.length := by omega
     have hmv := Hmr.out h2
     have H1 := Lib.hid h1
     have hfm := fun w' hb => FFam.family_calls w' (.slice (some ⟨b, o, none⟩) f.length c0) f ((HR.out w' hb).mono nodeE_keeps hb.size) hlen2 Hkm.out
     have Hfm := Lib.hid hfm
     cases hfb : familyB f with
     | false =>
      rw [hfb, Bool.false_and] at hmv
      rw [hfb] at Hfm
      have Hmv := Lib.hid hmv
      clear h1 h2 hmv hfm hfb
      go_wp2_with (go_at_call 102; with_reducible refine (Hfm.out _ H1.out).mono ?_; rintro e w5 ⟨rfl, hb5⟩; have Hb5 := Lib.hid hb5; clear hb5)
      go_ret
      exact ⟨ret_bool Hmv.out.symm, bthen H1.out Hb5.out⟩
     | true =>
      have hcm := fun w' hb => FClimbs.climbs_calls w' (.slice (some ⟨b, o, none⟩) f.length c0) f ((HR.out w' hb).mono nodeE_keeps hb.size) hlen2 (family_parents hfb)
      rw [hfb, Bool.true_and] at hmv
      rw [hfb] at Hfm
      generalize climbsB f = cb at *
      have Hcm := Lib.hid hcm
      have Hmv := Lib.hid hmv
      clear h1 h2 hmv hfm hfb hcm
      go_wp2_with (first
       | (go_at_call 102; with_reducible refine (Hfm.out _ H1.out).mono ?_; rintro e w5 ⟨rfl, hb5⟩; have Hb5 := Lib.hid hb5; clear hb5)
       | (go_at_call 103; with_reducible refine (Hcm.out _ (bthen H1.out Hb5.out)).mono ?_; rintro e w6 ⟨rfl, hb6⟩; have Hb6 := Lib.hid hb6; clear hb6))
      go_ret
      exact ⟨ret_bool Hmv.out.symm, bthen (bthen H1.out Hb5.out) Hb6.out⟩
end Go.Proofs.YtmbhkkophkccbaaGreat.FMay
end
section
namespace Go.Proofs.YtmbhkkophkccbaaGreat.FBelow
open Go Go.RowKit Go.Proofs.YtmbhkkophkccbaaGreat.Seq WS FS WordIt Mem Rd Word WordHas Shapes FFam FMay
set_option linter.unusedVariables false
set_option linter.unusedSimpArgs false

set_option maxRecDepth 100000 in
set_option maxHeartbeats 4000000 in
theorem Below_calls (w : World) (v : Value) (f : Fo) (top id : Int) (h : RdF w.heap.size w v f) (hkm : ∀ n ∈ f, n.kids.length ≤ 1000) :
  Calls Tryz.prog 169 #[v, .int .i64 top, .int .i64 id] w fun e w' => e = .returned (.bool (belowB f top id)) ∧ Below w.heap.size w w' := by
 have HR := Lib.hid (fun w' hb => h.below nodeE_keeps (w' := w') hb (Nat.le_refl _))
 have hmy := May_calls w v f h hkm
 obtain ⟨A0, c0, rfl, hl0, hc0, _⟩ := h.form
 simp only [maxLen] at hc0
 clear h
 cases hm : mayB f with
 | false =>
  have hb : belowB f top id = false := by unfold belowB; rw [hm]; simp
  rw [hm] at hmy
  have Hmy := Lib.hid hmy; have Hb := Lib.hid hb
  clear hmy hb hm
  go_enter Tryz.func169, Tryz.ntmps169
  go_wp2_with (go_at_call 42; with_reducible refine (Hmy.out).mono ?_; rintro e w5 ⟨rfl, hb5⟩; have Hb5 := Lib.hid hb5; clear hb5)
  go_ret
  exact ⟨ret_bool Hb.out.symm, Hb5.out⟩
 | true =>
  rw [hm] at hmy
  have Hmy := Lib.hid hmy; clear hmy
  have hlen := (may_len hm).2
  by_cases hin : 0 ≤ id ∧ id < f.length
  case neg =>
   have hb : belowB f top id = false := by unfold belowB; rw [show isNode f id = false by rw [← Bool.not_eq_true, isNode_iff]; exact hin]; simp
   have Hb := Lib.hid hb
   clear hb hm
   by_cases h0 : id < 0
   ·clear hin
    go_enter Tryz.func169, Tryz.ntmps169
    go_wp2_with (go_at_call 42; with_reducible refine (Hmy.out).mono ?_; rintro e w5 ⟨rfl, hb5⟩; have Hb5 := Lib.hid hb5; clear hb5)
    go_ret
    exact ⟨ret_bool Hb.out.symm, Hb5.out⟩
   ·have h1 : (f.length : Int) ≤ id := by omega
    clear hin
    go_enter Tryz.func169, Tryz.ntmps169
    go_wp2_with (go_at_call 42; with_reducible refine (Hmy.out).mono ?_; rintro e w5 ⟨rfl, hb5⟩; have Hb5 := Lib.hid hb5; clear hb5)
    go_ret
    exact ⟨ret_bool Hb.out.symm, Hb5.out⟩
  case pos =>
   obtain ⟨hi0, hi1⟩ := hin
   have hnode : isNode f id = true := (isNode_iff f id).2 ⟨hi0, hi1⟩
   obtain ⟨N, hN⟩ : ∃ N, Up f N id := by
    obtain ⟨n, hn⟩ := may_climbs hm id.toNat (by omega)
    exact ⟨n, by rwa [Int.toNat_of_nonneg hi0] at hn⟩
   have hpar := family_parents (may_family hm)
   have HN := Lib.hid hN; have Hm := Lib.hid hm; have Hnode := Lib.hid hnode; have Hpar := Lib.hid hpar
   clear hN hm hnode hpar
   go_enter Tryz.func169, Tryz.ntmps169
   go_wp2_with (go_at_call 42; with_reducible refine (Hmy.out).mono ?_; rintro e w5 ⟨rfl, hb5⟩; have Hb5 := Lib.hid hb5; clear hb5)
   go_loopg [2] N (fun g i wx => ∃ j : Int, i = .int .i64 j ∧ Up f g j ∧ -1 ≤ j ∧ j < f.length ∧ (belowP f top id ↔ belowP f top j) ∧ wx = w5)
   case atStart => exact ⟨id, rfl, HN.out, by omega, hi1, Iff.rfl, rfl⟩
   case round =>
    obtain ⟨j, rfl, hup, hj0, hj1, hiff, rfl⟩ := hrel
    by_cases htop : j = top
    ·subst htop
     have hres : belowB f j id = decide (0 ≤ j) := below_eq Hm.out Hnode.out (by rw [hiff, decide_eq_true_eq]; exact ⟨fun h => h.1, fun h => ⟨h, 0, rfl⟩⟩)
     have Hres := Lib.hid hres
     have hne : (j != j) = false := by simp
     clear hup hiff hres
     go_wp2_with fail
     go_ret
     refine ⟨ret_bool ?_, Hb5.out⟩
     rw [Hres.out, Bool.eq_iff_iff]
     simp
     omega
    ·have hne : (j != top) = true := by rw [bne_iff_ne]; exact htop
     have hne2 : (j == top) = false := by rw [beq_eq_false_iff_ne]; exact htop
     by_cases h1 : j = -1
     ·subst h1
      have hres : belowB f top id = false := below_eq Hm.out Hnode.out (by rw [hiff]; exact ⟨fun h => absurd h (belowP_end htop), fun h => by cases h⟩)
      have Hres := Lib.hid hres
      clear hup hiff hres
      go_wp2_with fail
      go_ret
      exact ⟨ret_bool Hres.out.symm, Hb5.out⟩
     ·obtain ⟨x, rfl⟩ : ∃ x : Nat, j = x := ⟨j.toNat, by omega⟩
      have hx : x < f.length := by omega
      have hx1 : ((x : Int) == -1) = false := by rw [beq_eq_false_iff_ne]; omega
      obtain ⟨g, rfl⟩ : ∃ g, gk = g + 1 := by
       cases gk with
       | zero => have : (x : Int) < 0 := hup; omega
       | succ g => exact ⟨g, rfl⟩
      obtain ⟨b', o', _, _, _, _, rfl, _, _, _, _, _, n4, _⟩ := node_at (HR.out _ Hb5.out) hx
      rw [← at_nat hx] at n4
      have hst := belowP_step (f := f) (top := top) (j := x) (by omega) htop
      have hp := Hpar.out x hx
      have hup2 := hup.2
      rw [← hiff] at hst
      generalize (at_ f x).parent = pr at *
      have Hst := Lib.hid hst; have Hup := Lib.hid hup2
      clear hup hiff hst hup2
      go_wp2_with fail
      go_roundg g
      case measure => omega
      case rel => exact ⟨pr, rfl, Hup.out, hp.1, hp.2, Hst.out, rfl⟩
end Go.Proofs.YtmbhkkophkccbaaGreat.FBelow
end
section
namespace Go.Proofs.YtmbhkkophkccbaaGreat.OwnF
open Go Go.RowKit Go.Proofs.YtmbhkkophkccbaaGreat.Seq WS FS Mem Rd Shapes FFam
set_option linter.unusedVariables false
set_option linter.unusedSimpArgs false

def RdS {α : Type} (E : List Value → α → Prop) (sz : Nat) (S : Nat → Prop) (w : World) (v : Value) (l : List α) : Prop :=
 ∃ A c, v = .slice A l.length c ∧ l.length ≤ c ∧ c ≤ maxLen ∧ (0 < l.length → ∃ b o, A = some (⟨b, o, none⟩ : Addr) ∧ S b ∧ b < w.heap.size ∧
  ∀ i (h : i < l.length), ∃ cs : List Value, cs.length = sz ∧ (∀ j u, cs[j]? = some u → w.cell? ⟨b, o + i * sz + j, none⟩ = some u) ∧ E cs l[i])
def attrS (cs : List Value) (a : Av) : Prop := cs = [.string a.name, .string a.value] ∧ a.name.size ≤ maxLen ∧ a.value.size ≤ maxLen
def intS (cs : List Value) (z : Int) : Prop := cs = [.int .i64 z] ∧ (Lit.int .i64 z).wf = true
section
variable {α : Type} {E : List Value → α → Prop} {sz : Nat} {S S' : Nat → Prop} {w w' : World} {v : Value} {l : List α}
theorem RdS.nil : RdS E sz S w (.slice none 0 0) [] := ⟨none, 0, rfl, Nat.le_refl _, by simp [maxLen], fun h => absurd h (by simp)⟩
theorem cell_same {w w' : World} {g : Nat} (h : w'.heap[g]? = w.heap[g]?) (j : Nat) : w'.cell? ⟨g, j, none⟩ = w.cell? ⟨g, j, none⟩ := by simp [World.cell?, h]
theorem RdS.keep (h : RdS E sz S w v l) (hk : ∀ b, S b → b < w.heap.size → w'.heap[b]? = w.heap[b]?) (hs : w.heap.size ≤ w'.heap.size) (hS : ∀ b, S b → b < w.heap.size → S' b) : RdS E sz S' w' v l := by
 obtain ⟨A, c, hv, h1, h2, h3⟩ := h
 refine ⟨A, c, hv, h1, h2, fun h0 => ?_⟩
 obtain ⟨b, o, e, hb, hlt, hc⟩ := h3 h0
 refine ⟨b, o, e, hS b hb hlt, by omega, fun i hi => ?_⟩
 obtain ⟨cs, h4, h5, h6⟩ := hc i hi
 exact ⟨cs, h4, fun j u hj => (cell_same (hk b hb hlt) _).trans (h5 j u hj), h6⟩
theorem RdS.rd (h : RdS E sz S w v l) : RdL (fun _ _ => E) sz w.heap.size w v l := by
 obtain ⟨A, c, hv, h1, h2, h3⟩ := h
 refine ⟨A, c, hv, h1, h2, fun h0 => ?_⟩
 obtain ⟨b, o, e, hb, hlt, hc⟩ := h3 h0
 exact ⟨b, o, e, hlt, hc⟩
theorem RdS.of_rd {B : Nat} (h : RdL (fun _ _ => E) sz B w v l) (hB : B ≤ w.heap.size) : RdS E sz (fun b => b < B) w v l := by
 obtain ⟨A, c, hv, h1, h2, h3⟩ := h
 refine ⟨A, c, hv, h1, h2, fun h0 => ?_⟩
 obtain ⟨b, o, e, hlt, hc⟩ := h3 h0
 exact ⟨b, o, e, hlt, by omega, hc⟩
theorem RdS.of_own {base : Nat} {e : TypeId} {n : Nat} {xs : List Value} (h : w.ownsRow base e sz v n xs) (hl : l.length = n) (hS : ∀ g, v.ownBlock = some g → S g) (hE : ∀ i (hi : i < l.length), E ((xs.drop (i * sz)).take sz) l[i]) : RdS E sz S w v l := by
 have hx := h.1
 have hlt := h.lt
 rcases h.2 with ⟨rfl, rfl⟩ | ⟨g, cap, cur, rfl, hb, hh, hc, hm, hcs, ht⟩
 ·have : l = [] := List.eq_nil_of_length_eq_zero hl
  subst this
  exact RdS.nil
 ·subst hl
  refine ⟨_, cap, rfl, hc, hm, fun h0 => ⟨_, _, rfl, hS g (by simp [Value.ownBlock]), (hlt g rfl).2, fun i hi => ⟨(xs.drop (i * sz)).take sz, ?_, fun j u hj => ?_, hE i hi⟩⟩⟩
  ·rw [List.length_take, List.length_drop, hx]
   have : (i + 1) * sz ≤ l.length * sz := Nat.mul_le_mul_right _ hi
   rw [Nat.add_mul] at this
   omega
  ·rw [List.getElem?_take] at hj
   split at hj
   ·rw [List.getElem?_drop] at hj
    have := h.cells (g := g) rfl _ _ hj
    rw [Addr.add_lit] at this
    rw [Nat.add_assoc]
    exact this
   ·cases hj
theorem RdS.form (h : RdS E sz S w v l) : ∃ A c, v = .slice A l.length c ∧ l.length ≤ c ∧ c ≤ maxLen := by obtain ⟨A, c, h1, h2, h3, _⟩ := h; exact ⟨A, c, h1, h2, h3⟩
end
def nodeS (S : Nat → Prop) (w : World) (cs : List Value) (n : Nd) : Prop := ∃ va vk, cs = [.int .i64 n.kind, .string n.name, .string n.text, va, .int .i64 n.parent, vk] ∧ RdS attrS 2 S w va n.attrs ∧ RdS intS 1 S w vk n.kids ∧
 n.name.size ≤ maxLen ∧ n.text.size ≤ maxLen ∧ (Lit.int .i64 n.kind).wf = true ∧ (Lit.int .i64 n.parent).wf = true
theorem nodeS.keep {S S' : Nat → Prop} {w w' : World} {cs : List Value} {n : Nd} (h : nodeS S w cs n) (hk : ∀ b, S b → b < w.heap.size → w'.heap[b]? = w.heap[b]?) (hs : w.heap.size ≤ w'.heap.size) (hS : ∀ b, S b → b < w.heap.size → S' b) : nodeS S' w' cs n := by
 obtain ⟨va, vk, h1, h2, h3, h4⟩ := h
 exact ⟨va, vk, h1, h2.keep hk hs hS, h3.keep hk hs hS, h4⟩
theorem nodeS.len {S : Nat → Prop} {w : World} {cs : List Value} {n : Nd} (h : nodeS S w cs n) : cs.length = 6 := by obtain ⟨va, vk, rfl, _⟩ := h; rfl
theorem nodeS.one {S : Nat → Prop} {w : World} {cs : List Value} {n : Nd} (h : nodeS S w cs n) : ∀ u ∈ cs, u.oneCell' = true := by
 obtain ⟨va, vk, rfl, h2, h3, _⟩ := h
 obtain ⟨_, _, rfl, _⟩ := h2.form
 obtain ⟨_, _, rfl, _⟩ := h3.form
 intro u hu
 simp at hu
 rcases hu with rfl | rfl | rfl | rfl | rfl | rfl <;> rfl
theorem nodeS.rd {S : Nat → Prop} {w : World} {cs : List Value} {n : Nd} (h : nodeS S w cs n) : nodeE w.heap.size w cs n := by
 obtain ⟨va, vk, h1, h2, h3, h4⟩ := h
 exact ⟨va, vk, h1, h2.rd, h3.rd, h4⟩
theorem nodeS.of_rd {B : Nat} {w : World} {cs : List Value} {n : Nd} (h : nodeE B w cs n) (hB : B ≤ w.heap.size) : nodeS (fun b => b < B) w cs n := by
 obtain ⟨va, vk, h1, h2, h3, h4⟩ := h
 exact ⟨va, vk, h1, RdS.of_rd h2 hB, RdS.of_rd h3 hB, h4⟩
def OwnF (T : TypeId) (base : Nat) (w : World) (v : Value) (f : Fo) : Prop := ∃ xs, w.ownsRow base T 6 v f.length xs ∧ ∀ i (hi : i < f.length), nodeS (fun b => v.ownBlock ≠ some b) w ((xs.drop (i * 6)).take 6) f[i]
section
variable {T : TypeId} {base : Nat} {w w' : World} {v : Value} {f : Fo}
theorem OwnF.rd (h : OwnF T base w v f) : RdF w.heap.size w v f := by
 obtain ⟨xs, h1, h2⟩ := h
 exact RdL.of_own h1 rfl (fun g hg => (h1.lt g hg).2) (fun i hi => (h2 i hi).rd)
theorem OwnF.keep (h : OwnF T base w v f) (hk : ∀ b, b < w.heap.size → w'.heap[b]? = w.heap[b]?) (hs : w.heap.size ≤ w'.heap.size) : OwnF T base w' v f := by
 obtain ⟨xs, h1, h2⟩ := h
 exact ⟨xs, own_keep h1 (fun g hg => hk g (h1.lt g hg).2), fun i hi => (h2 i hi).keep (fun b _ hb => hk b hb) hs (fun _ x _ => x)⟩
theorem OwnF.below (h : OwnF T base w v f) (hb : Below w.heap.size w w') : OwnF T base w' v f := h.keep (fun b hl => hb.block b hl) hb.size
theorem OwnF.nil : OwnF T base w (.slice none 0 0) [] := ⟨[], World.ownsRow_nil _ _ _ _, fun i hi => absurd hi (by simp)⟩
theorem OwnF.more {v' : Value} {g : Fo} {xs news : List Value} (h1 : w.ownsRow base T 6 v f.length xs) (h2 : ∀ i (hi : i < f.length), nodeS (fun b => v.ownBlock ≠ some b) w ((xs.drop (i * 6)).take 6) f[i]) (hn : news.length = g.length * 6)
  (hg : ∀ i (hi : i < g.length), nodeS (fun b => v.ownBlock ≠ some b) w ((news.drop (i * 6)).take 6) g[i]) (ho : w'.ownsRow base T 6 v' (f.length + g.length) (xs ++ news)) (hgr : w.grownBy w' v.ownBlock) (hat : v'.ownBlock = v.ownBlock ∨ v'.ownBlock = some w.heap.size) : OwnF T base w' v' (f ++ g) := by
 have hx := h1.1
 have hk : ∀ b, v.ownBlock ≠ some b → b < w.heap.size → w'.heap[b]? = w.heap[b]? := fun b hb hlt => hgr.block b hlt (fun e => hb e.symm)
 have hS : ∀ b, v.ownBlock ≠ some b → b < w.heap.size → v'.ownBlock ≠ some b := fun b hb hlt => by
  rcases hat with e | e
  ·rw [e]; exact hb
  ·rw [e]; intro e2; injection e2 with e2; omega
 refine ⟨xs ++ news, by rw [List.length_append]; exact ho, fun i hi => ?_⟩
 by_cases hif : i < f.length
 ·have : i * 6 + 6 ≤ xs.length := by omega
  rw [List.getElem_append_left hif, List.drop_append_of_le_length (by omega), List.take_append_of_le_length (by rw [List.length_drop]; omega)]
  exact (h2 i hif).keep hk hgr.size hS
 ·have hi2 : i - f.length < g.length := by rw [List.length_append] at hi; omega
  rw [List.getElem_append_right (by omega), List.drop_append, List.drop_eq_nil_of_le (by omega), List.nil_append, show i * 6 - xs.length = (i - f.length) * 6 by omega]
  exact (hg _ hi2).keep hk hgr.size hS
theorem take_set_ne {xs : List Value} {i k j : Nat} {u : Value} (hk : k ≠ i) (hj : j < 6) : (((xs.set (i * 6 + j) u).drop (k * 6)).take 6) = ((xs.drop (k * 6)).take 6) := by
 apply List.ext_getElem?
 intro m
 rw [List.getElem?_take, List.getElem?_take]
 split
 ·rw [List.getElem?_drop, List.getElem?_drop, List.getElem?_set_ne (by omega)]
 ·rfl
theorem take_set_eq {xs : List Value} {i j : Nat} {u : Value} (hj : j < 6) : (((xs.set (i * 6 + j) u).drop (i * 6)).take 6) = ((xs.drop (i * 6)).take 6).set j u := by
 apply List.ext_getElem?
 intro m
 rw [List.getElem?_take, List.getElem?_set, List.length_take, List.length_drop, List.getElem?_take, List.getElem?_drop, List.getElem?_drop, List.getElem?_set]
 by_cases hm : m < 6
 ·rw [if_pos hm, if_pos hm]
  by_cases e : j = m
  ·subst e
   rw [if_pos rfl, if_pos rfl]
   by_cases hl : i * 6 + j < xs.length
   ·rw [if_pos hl, if_pos (by omega)]
   ·rw [if_neg hl, if_neg (by omega)]
  ·rw [if_neg (by omega), if_neg e]
 ·rw [if_neg hm, if_neg hm, if_neg (by omega)]
theorem OwnF.store {g c : Nat} (h : OwnF T base w (.slice (some ⟨g, 0, none⟩) f.length c) f) {i j : Nat} (hi : i < f.length) (hj : j < 6) {u : Value} {n : Nd}
  (hn : ∀ cs, nodeS (fun b => b ≠ g) w cs f[i] → nodeS (fun b => b ≠ g) w (cs.set j u) n) : OwnF T base (w.setCell ⟨g, i * 6 + j, none⟩ u) (.slice (some ⟨g, 0, none⟩) f.length c) (f.set i n) := by
 obtain ⟨xs, h1, h2⟩ := h
 have hS : (fun b => (Value.slice (some ⟨g, 0, none⟩) f.length c).ownBlock ≠ some b) = (fun b => b ≠ g) := by
  funext b
  simp only [Value.ownBlock, eq_iff_iff]
  constructor
  ·intro h e; exact h (by rw [e])
  ·intro h e; injection e with e; exact h e.symm
 have hk : ∀ b, b ≠ g → b < w.heap.size → (w.setCell ⟨g, i * 6 + j, none⟩ u).heap[b]? = w.heap[b]? := fun b hb _ => Below.heap_setCell _ _ _ _ hb
 have hsz : w.heap.size ≤ (w.setCell ⟨g, i * 6 + j, none⟩ u).heap.size := by simp [World.setCell]
 refine ⟨xs.set (i * 6 + j) u, by rw [List.length_set]; exact (h1.stored (i * 6 + j) u).1, fun k hk' => ?_⟩
 rw [List.length_set] at hk'
 rw [hS] at h2 ⊢
 by_cases e : i = k
 ·subst e
  rw [List.getElem_set_self, take_set_eq hj]
  exact (hn _ (h2 i hk')).keep hk hsz (fun _ x _ => x)
 ·rw [List.getElem_set_ne e, take_set_ne (fun h => e h.symm) hj]
  exact (h2 k hk').keep hk hsz (fun _ x _ => x)
theorem OwnF.form (h : OwnF T base w v f) (h0 : 0 < f.length) : ∃ g c, v = .slice (some ⟨g, 0, none⟩) f.length c ∧ base ≤ g ∧ g < w.heap.size ∧ (∀ o, w.frozen? ⟨g, o, none⟩ = false) ∧ f.length ≤ c ∧ c ≤ maxLen := by
 obtain ⟨xs, h1, h2⟩ := h
 have hlt := h1.lt
 rcases h1.2 with ⟨_, hn⟩ | ⟨g, cap, cur, rfl, hb, hh, hc, hm, _⟩
 ·omega
 ·exact ⟨g, cap, rfl, hb, (hlt g rfl).2, fun o => free_of hh o, hc, hm⟩
theorem OwnF.ne_block {g c : Nat} (h : OwnF T base w (.slice (some ⟨g, 0, none⟩) f.length c) f) {i : Nat} (hi : i < f.length) : ∃ cs va vk, cs = [.int .i64 f[i].kind, .string f[i].name, .string f[i].text, va, .int .i64 f[i].parent, vk] ∧ (∀ j u, cs[j]? = some u → w.cell? ⟨g, i * 6 + j, none⟩ = some u) ∧ RdS attrS 2 (fun b => b ≠ g) w va f[i].attrs ∧ RdS intS 1 (fun b => b ≠ g) w vk f[i].kids := by
 obtain ⟨xs, h1, h2⟩ := h
 obtain ⟨va, vk, e, r1, r2, _⟩ := h2 i hi
 have hne : ∀ b, (Value.slice (some ⟨g, 0, none⟩) f.length c).ownBlock ≠ some b → b < w.heap.size → b ≠ g := fun b hb _ e => hb (by rw [e]; rfl)
 refine ⟨_, va, vk, e, fun j u hj => ?_, r1.keep (fun _ _ _ => rfl) (Nat.le_refl _) hne, r2.keep (fun _ _ _ => rfl) (Nat.le_refl _) hne⟩
 rw [List.getElem?_take] at hj
 split at hj
 ·rw [List.getElem?_drop] at hj
  have := h1.cells (g := g) rfl _ _ hj
  rwa [Addr.add_lit, Nat.zero_add] at this
 ·cases hj
end
theorem rd_cells {B : Nat} {w : World} {A : Option Addr} {n c : Nat} {f : Fo} (h : RdF B w (.slice A n c) f) (hB : B ≤ w.heap.size) (h0 : 0 < f.length) :
  ∃ (b o : Nat) (xs : List Value), A = some ⟨b, o, none⟩ ∧ b < B ∧ xs.length = f.length * 6 ∧ (∀ j u, xs[j]? = some u → w.cell? ⟨b, o + j, none⟩ = some u) ∧ ∀ i (hi : i < f.length), nodeS (fun b => b < B) w ((xs.drop (i * 6)).take 6) f[i] := by
 obtain ⟨b, o, cs0, hA, hlt, _, _, _⟩ := h.at_ (i := 0) h0
 have key : ∀ k, k ≤ f.length → ∃ xs : List Value, xs.length = k * 6 ∧ (∀ j u, xs[j]? = some u → w.cell? ⟨b, o + j, none⟩ = some u) ∧ ∀ i (hi : i < f.length), i < k → nodeS (fun b => b < B) w ((xs.drop (i * 6)).take 6) f[i] := by
  intro k
  induction k with
  | zero => exact fun _ => ⟨[], rfl, fun j u hj => by simp at hj, fun i hi h => absurd h (Nat.not_lt_zero _)⟩
  | succ k ih =>
   intro hk
   obtain ⟨xs, h1, h2, h3⟩ := ih (by omega)
   obtain ⟨b', o', cs, hA', _, hl, hc, hE⟩ := h.at_ (i := k) (by omega)
   rw [hA] at hA'
   injection hA' with hA'
   injection hA' with e1 e2 _
   subst e1 e2
   refine ⟨xs ++ cs, by rw [List.length_append]; omega, fun j u hj => ?_, fun i hi hik => ?_⟩
   ·by_cases hjl : j < xs.length
    ·rw [List.getElem?_append_left hjl] at hj
     exact h2 j u hj
    ·rw [List.getElem?_append_right (by omega)] at hj
     have := hc _ u hj
     rwa [show o + k * 6 + (j - xs.length) = o + j by omega] at this
   ·by_cases e : i < k
    ·rw [List.drop_append_of_le_length (by omega), List.take_append_of_le_length (by rw [List.length_drop]; omega)]
     exact h3 i hi e
    ·have : i = k := by omega
     subst this
     rw [List.drop_append, List.drop_eq_nil_of_le (by omega), List.nil_append, show i * 6 - xs.length = 0 by omega, List.drop_zero, List.take_of_length_le (by omega)]
     exact nodeS.of_rd hE hB
 obtain ⟨xs, h1, h2, h3⟩ := key f.length (Nat.le_refl _)
 exact ⟨b, o, xs, hA, hlt, h1, h2, fun i hi => h3 i hi hi⟩
end Go.Proofs.YtmbhkkophkccbaaGreat.OwnF
end
section
namespace Go.Proofs.YtmbhkkophkccbaaGreat.OwnF
open Go Go.RowKit Go.Proofs.YtmbhkkophkccbaaGreat.Seq WS FS Mem Rd Shapes FFam
set_option linter.unusedVariables false
set_option linter.unusedSimpArgs false

def OwnX (X : Nat → Prop) (T : TypeId) (base : Nat) (w : World) (v : Value) (f : Fo) : Prop := ∃ xs, w.ownsRow base T 6 v f.length xs ∧ ∀ i (hi : i < f.length), nodeS (fun b => v.ownBlock ≠ some b ∧ X b) w ((xs.drop (i * 6)).take 6) f[i]
section
variable {X : Nat → Prop} {T : TypeId} {base : Nat} {w w' : World} {v : Value} {f : Fo}
theorem nodeS.weak {S S' : Nat → Prop} {cs : List Value} {n : Nd} (h : nodeS S w cs n) (hS : ∀ b, S b → b < w.heap.size → S' b) : nodeS S' w cs n := h.keep (fun _ _ _ => rfl) (Nat.le_refl _) hS
theorem OwnX.own (h : OwnX X T base w v f) : OwnF T base w v f := by
 obtain ⟨xs, h1, h2⟩ := h
 exact ⟨xs, h1, fun i hi => (h2 i hi).weak (fun b hb _ => hb.1)⟩
theorem OwnX.of_own (h : OwnF T base w v f) (hX : ∀ b, b < w.heap.size → X b) : OwnX X T base w v f := by
 obtain ⟨xs, h1, h2⟩ := h
 exact ⟨xs, h1, fun i hi => (h2 i hi).weak (fun b hb hl => ⟨hb, hX b hl⟩)⟩
theorem OwnX.keep (h : OwnX X T base w v f) (hk : ∀ b, b < w.heap.size → (X b ∨ v.ownBlock = some b) → w'.heap[b]? = w.heap[b]?) (hs : w.heap.size ≤ w'.heap.size) : OwnX X T base w' v f := by
 obtain ⟨xs, h1, h2⟩ := h
 exact ⟨xs, own_keep h1 (fun g hg => hk g (h1.lt g hg).2 (.inr hg)), fun i hi => (h2 i hi).keep (fun b hb hl => hk b hl (.inl hb.2)) hs (fun _ x _ => x)⟩
theorem OwnX.below (h : OwnX X T base w v f) (hb : Below w.heap.size w w') : OwnX X T base w' v f := h.keep (fun b hl _ => hb.block b hl) hb.size
theorem OwnX.more {v' : Value} {g : Fo} {xs news : List Value} (h1 : w.ownsRow base T 6 v f.length xs) (h2 : ∀ i (hi : i < f.length), nodeS (fun b => v.ownBlock ≠ some b ∧ X b) w ((xs.drop (i * 6)).take 6) f[i]) (hn : news.length = g.length * 6)
  (hg : ∀ i (hi : i < g.length), nodeS (fun b => v.ownBlock ≠ some b ∧ X b) w ((news.drop (i * 6)).take 6) g[i]) (ho : w'.ownsRow base T 6 v' (f.length + g.length) (xs ++ news)) (hgr : w.grownBy w' v.ownBlock) (hat : v'.ownBlock = v.ownBlock ∨ v'.ownBlock = some w.heap.size) : OwnX X T base w' v' (f ++ g) := by
 have hx := h1.1
 have hk : ∀ b, (v.ownBlock ≠ some b ∧ X b) → b < w.heap.size → w'.heap[b]? = w.heap[b]? := fun b hb hlt => hgr.block b hlt (fun e => hb.1 e.symm)
 have hS : ∀ b, (v.ownBlock ≠ some b ∧ X b) → b < w.heap.size → (v'.ownBlock ≠ some b ∧ X b) := fun b hb hlt => by
  refine ⟨?_, hb.2⟩
  rcases hat with e | e
  ·rw [e]; exact hb.1
  ·rw [e]; intro e2; injection e2 with e2; omega
 refine ⟨xs ++ news, by rw [List.length_append]; exact ho, fun i hi => ?_⟩
 by_cases hif : i < f.length
 ·have : i * 6 + 6 ≤ xs.length := by omega
  rw [List.getElem_append_left hif, List.drop_append_of_le_length (by omega), List.take_append_of_le_length (by rw [List.length_drop]; omega)]
  exact (h2 i hif).keep hk hgr.size hS
 ·have hi2 : i - f.length < g.length := by rw [List.length_append] at hi; omega
  rw [List.getElem_append_right (by omega), List.drop_append, List.drop_eq_nil_of_le (by omega), List.nil_append, show i * 6 - xs.length = (i - f.length) * 6 by omega]
  exact (hg _ hi2).keep hk hgr.size hS
theorem OwnX.store {g c : Nat} (h : OwnX X T base w (.slice (some ⟨g, 0, none⟩) f.length c) f) {i j : Nat} (hi : i < f.length) (hj : j < 6) {u : Value} {n : Nd}
  (hn : ∀ cs, nodeS (fun b => b ≠ g ∧ X b) w cs f[i] → nodeS (fun b => b ≠ g ∧ X b) w (cs.set j u) n) : OwnX X T base (w.setCell ⟨g, i * 6 + j, none⟩ u) (.slice (some ⟨g, 0, none⟩) f.length c) (f.set i n) := by
 obtain ⟨xs, h1, h2⟩ := h
 have hS : (fun b => (Value.slice (some ⟨g, 0, none⟩) f.length c).ownBlock ≠ some b ∧ X b) = (fun b => b ≠ g ∧ X b) := by
  funext b
  simp only [Value.ownBlock, eq_iff_iff]
  constructor
  ·intro h; exact ⟨fun e => h.1 (by rw [e]), h.2⟩
  ·intro h; exact ⟨fun e => by injection e with e; exact h.1 e.symm, h.2⟩
 have hk : ∀ b, (b ≠ g ∧ X b) → b < w.heap.size → (w.setCell ⟨g, i * 6 + j, none⟩ u).heap[b]? = w.heap[b]? := fun b hb _ => Below.heap_setCell _ _ _ _ hb.1
 have hsz : w.heap.size ≤ (w.setCell ⟨g, i * 6 + j, none⟩ u).heap.size := by simp [World.setCell]
 refine ⟨xs.set (i * 6 + j) u, by rw [List.length_set]; exact (h1.stored (i * 6 + j) u).1, fun k hk' => ?_⟩
 rw [List.length_set] at hk'
 rw [hS] at h2 ⊢
 by_cases e : i = k
 ·subst e
  rw [List.getElem_set_self, take_set_eq hj]
  exact (hn _ (h2 i hk')).keep hk hsz (fun _ x _ => x)
 ·rw [List.getElem_set_ne e, take_set_ne (fun h => e h.symm) hj]
  exact (h2 k hk').keep hk hsz (fun _ x _ => x)
end
end Go.Proofs.YtmbhkkophkccbaaGreat.OwnF
end
section
namespace Go.Proofs.YtmbhkkophkccbaaGreat.OwnF
open Go Go.RowKit Go.Proofs.YtmbhkkophkccbaaGreat.Seq WS FS Mem Rd Shapes FFam
set_option linter.unusedVariables false
set_option linter.unusedSimpArgs false
def loE (L : Nat) : Elem Nd := fun _ w cs n => nodeS (fun b => L ≤ b) w cs n
def LoF (L : Nat) (w : World) (v : Value) (f : Fo) : Prop := RdL (loE L) 6 w.heap.size w v f ∧ ∀ b o n c, v = .slice (some (⟨b, o, none⟩ : Addr)) n c → L ≤ b
section
variable {L : Nat} {w w' : World} {v : Value} {f : Fo}
theorem LoF.rd (h : LoF L w v f) : RdF w.heap.size w v f := by
 obtain ⟨A, c, hv, h1, h2, h3⟩ := h.1
 refine ⟨A, c, hv, h1, h2, fun h0 => ?_⟩
 obtain ⟨b, o, e, hb, hc⟩ := h3 h0
 refine ⟨b, o, e, hb, fun i hi => ?_⟩
 obtain ⟨cs, h4, h5, h6⟩ := hc i hi
 exact ⟨cs, h4, h5, nodeS.rd h6⟩
theorem LoF.of_rd (h : RdF w.heap.size w v f) : LoF 0 w v f := by
 refine ⟨?_, fun _ _ _ _ _ => Nat.zero_le _⟩
 obtain ⟨A, c, hv, h1, h2, h3⟩ := h
 refine ⟨A, c, hv, h1, h2, fun h0 => ?_⟩
 obtain ⟨b, o, e, hb, hc⟩ := h3 h0
 refine ⟨b, o, e, hb, fun i hi => ?_⟩
 obtain ⟨cs, h4, h5, h6⟩ := hc i hi
 exact ⟨cs, h4, h5, (nodeS.of_rd h6 (Nat.le_refl _)).weak (fun b _ _ => Nat.zero_le b)⟩
theorem LoF.keep (h : LoF L w v f) (hk : ∀ b, L ≤ b → b < w.heap.size → w'.heap[b]? = w.heap[b]?) (hs : w.heap.size ≤ w'.heap.size) : LoF L w' v f := by
 refine ⟨?_, h.2⟩
 obtain ⟨⟨A, c, hv, h1, h2, h3⟩, hL⟩ := h
 refine ⟨A, c, hv, h1, h2, fun h0 => ?_⟩
 obtain ⟨b, o, e, hb, hc⟩ := h3 h0
 subst e
 refine ⟨b, o, rfl, by omega, fun i hi => ?_⟩
 obtain ⟨cs, h4, h5, h6⟩ := hc i hi
 exact ⟨cs, h4, fun j u hj => (cell_same (hk b (hL _ _ _ _ hv) hb) _).trans (h5 j u hj), nodeS.keep h6 hk hs (fun _ x _ => x)⟩
theorem LoF.below (h : LoF L w v f) (hb : Below w.heap.size w w') : LoF L w' v f := h.keep (fun b _ hl => hb.block b hl) hb.size
theorem LoF.of_ownx {X : Nat → Prop} {T : TypeId} {base : Nat} (h : OwnX X T base w v f) (hX : ∀ b, X b → L ≤ b) (hL : L ≤ base) : LoF L w v f := by
 obtain ⟨xs, h1, h2⟩ := h
 refine ⟨RdL.of_own h1 rfl (fun g hg => (h1.lt g hg).2) (fun i hi => (h2 i hi).weak (fun b hb _ => hX b hb.2)), fun b o n c e => ?_⟩
 subst e
 have := (h1.lt b rfl).1
 omega
theorem OwnX.both {X Y : Nat → Prop} {T : TypeId} {base : Nat} (h : OwnX X T base w v f) (hY : ∀ b, b < w.heap.size → Y b) : OwnX (fun b => Y b ∧ X b) T base w v f := by
 obtain ⟨xs, h1, h2⟩ := h
 exact ⟨xs, h1, fun i hi => (h2 i hi).weak (fun b hb hl => ⟨hb.1, hY b hl, hb.2⟩)⟩
theorem lo_cells {A : Option Addr} {n c : Nat} (h : LoF L w (.slice A n c) f) (h0 : 0 < f.length) :
  ∃ (b o : Nat) (xs : List Value), A = some ⟨b, o, none⟩ ∧ b < w.heap.size ∧ xs.length = f.length * 6 ∧ (∀ j u, xs[j]? = some u → w.cell? ⟨b, o + j, none⟩ = some u) ∧ ∀ i (hi : i < f.length), nodeS (fun b => L ≤ b) w ((xs.drop (i * 6)).take 6) f[i] := by
 replace h := h.1
 obtain ⟨b, o, cs0, hA, hlt, _, _, _⟩ := h.at_ (i := 0) h0
 have key : ∀ k, k ≤ f.length → ∃ xs : List Value, xs.length = k * 6 ∧ (∀ j u, xs[j]? = some u → w.cell? ⟨b, o + j, none⟩ = some u) ∧ ∀ i (hi : i < f.length), i < k → nodeS (fun b => L ≤ b) w ((xs.drop (i * 6)).take 6) f[i] := by
  intro k
  induction k with
  | zero => exact fun _ => ⟨[], rfl, fun j u hj => by simp at hj, fun i hi h => absurd h (Nat.not_lt_zero _)⟩
  | succ k ih =>
   intro hk
   obtain ⟨xs, h1, h2, h3⟩ := ih (by omega)
   obtain ⟨b', o', cs, hA', _, hl, hc, hE⟩ := h.at_ (i := k) (by omega)
   rw [hA] at hA'
   injection hA' with hA'
   injection hA' with e1 e2 _
   subst e1 e2
   refine ⟨xs ++ cs, by rw [List.length_append]; omega, fun j u hj => ?_, fun i hi hik => ?_⟩
   ·by_cases hjl : j < xs.length
    ·rw [List.getElem?_append_left hjl] at hj
     exact h2 j u hj
    ·rw [List.getElem?_append_right (by omega)] at hj
     have := hc _ u hj
     rwa [show o + k * 6 + (j - xs.length) = o + j by omega] at this
   ·by_cases e : i < k
    ·rw [List.drop_append_of_le_length (by omega), List.take_append_of_le_length (by rw [List.length_drop]; omega)]
     exact h3 i hi e
    ·have : i = k := by omega
     subst this
     rw [List.drop_append, List.drop_eq_nil_of_le (by omega), List.nil_append, show i * 6 - xs.length = 0 by omega, List.drop_zero, List.take_of_length_le (by omega)]
     exact hE
 obtain ⟨xs, h1, h2, h3⟩ := key f.length (Nat.le_refl _)
 exact ⟨b, o, xs, hA, hlt, h1, h2, fun i hi => h3 i hi hi⟩
end
end Go.Proofs.YtmbhkkophkccbaaGreat.OwnF
end
section
namespace Go.Proofs.YtmbhkkophkccbaaGreat.Work
open Go Go.RowKit Go.Proofs.YtmbhkkophkccbaaGreat.Seq WS FS Mem Rd Shapes Word FFam OwnF
set_option linter.unusedVariables false
set_option linter.unusedSimpArgs false

abbrev workRow (vf : Value) (o : Opn) : Array Value := #[vf, .int .i64 o.kind, .int .i64 o.id, .int .i64 o.to, .int .i64 o.at_, .string o.name, .string o.text]
class Avoid where
 lo : Nat
instance (priority := low) avoid0 : Avoid := ⟨0⟩
section
variable [Avoid]
structure Wk (base wk g c : Nat) (o : Opn) (f : Fo) (w : World) : Prop where
 box : w.heap[wk]? = some (.cells (workRow (.slice (some ⟨g, 0, none⟩) f.length c) o) 179 (0, 0))
 ownx : OwnX (fun b => b ≠ wk ∧ Avoid.lo ≤ b) 50 base w (.slice (some ⟨g, 0, none⟩) f.length c) f
 ne : g ≠ wk
 big : f.length ≤ c ∧ c ≤ 9223372036854775807
 lo : Avoid.lo ≤ base
end
theorem drewN_below {B : Nat} {a w : World} (h : Below B a w) (n : Nat) : Below B a (w.drewN n) := ⟨h.os, h.tape, h.output, h.size, h.block⟩
section
variable [Avoid] {base wk g c : Nat} {o : Opn} {f : Fo} {w w' : World}
theorem Wk.own (h : Wk base wk g c o f w) : OwnF 50 base w (.slice (some ⟨g, 0, none⟩) f.length c) f := h.ownx.own
theorem Wk.below (h : Wk base wk g c o f w) (hb : Below w.heap.size w w') : Wk base wk g c o f w' := ⟨(hb.block wk (lt_heap h.box)).trans h.box, h.ownx.below hb, h.ne, h.big, h.lo⟩
theorem Wk.cells (h : Wk base wk g c o f w) : w.cell? ⟨wk, 0, none⟩ = some (.slice (some ⟨g, 0, none⟩) f.length c) ∧ w.cell? ⟨wk, 1, none⟩ = some (.int .i64 o.kind) ∧ w.cell? ⟨wk, 2, none⟩ = some (.int .i64 o.id) ∧ w.cell? ⟨wk, 3, none⟩ = some (.int .i64 o.to) ∧
  w.cell? ⟨wk, 4, none⟩ = some (.int .i64 o.at_) ∧ w.cell? ⟨wk, 5, none⟩ = some (.string o.name) ∧ w.cell? ⟨wk, 6, none⟩ = some (.string o.text) :=
 ⟨(cell_of_row _ _ _ _ _ _ h.box).trans rfl, (cell_of_row _ _ _ _ _ _ h.box).trans rfl, (cell_of_row _ _ _ _ _ _ h.box).trans rfl, (cell_of_row _ _ _ _ _ _ h.box).trans rfl, (cell_of_row _ _ _ _ _ _ h.box).trans rfl, (cell_of_row _ _ _ _ _ _ h.box).trans rfl, (cell_of_row _ _ _ _ _ _ h.box).trans rfl⟩
end
def ChkPost (b : Bool) (w : World) (e : Ending) (w' : World) : Prop := e = .returned (.bool b) ∧ Below w.heap.size w w'
def Chk [Avoid] (K : FuncId) (base wk g c : Nat) (o : Opn) (f : Fo) (b : Bool) : Prop := ∀ w, Wk base wk g c o f w → Calls Tryz.prog K #[.pointer (some ⟨wk, 0, none⟩)] w (ChkPost b w)
section
variable [Avoid] {base wk g c : Nat} {o : Opn} {f : Fo}
theorem room_chk : Chk 160 base wk g c o f (roomB f) := by
 intro w h
 obtain ⟨c0, c1, c2, c3, c4, c5, c6⟩ := h.cells
 have hl := h.big
 clear h
 go_enter Tryz.func160, Tryz.ntmps160
 go_wp2
 go_ret
 refine ⟨ret_bool ?_, Below.refl _ _⟩
 unfold roomB
 rw [Bool.eq_iff_iff]; simp; try omega
theorem named_chk : Chk 159 base wk g c o f (namedB o) := by
 intro w h
 obtain ⟨c0, c1, c2, c3, c4, c5, c6⟩ := h.cells
 have hN : ∀ w, Calls Tryz.prog 151 #[.string o.name] w fun e w' => e = .returned (.bool (nameB o.name.data.toList)) ∧ w = w' := fun w => Name_calls _ w
 have hT : ∀ w, Calls Tryz.prog 150 #[.string o.text] w fun e w' => e = .returned (.bool (textB o.text.data.toList)) ∧ w = w' := fun w => Text_calls _ w
 unfold namedB
 generalize nameB o.name.data.toList = bn at *
 generalize textB o.text.data.toList = bt at *
 have HN := Lib.hid hN; have HT := Lib.hid hT
 clear h hN hT
 cases bn with
 | false =>
  go_enter Tryz.func159, Tryz.ntmps159
  go_wp2_with (go_at_call 151; (with_reducible refine (HN.out _).mono ?_); rintro e w5 ⟨rfl, rfl⟩)
  go_ret
  exact ⟨rfl, Below.refl _ _⟩
 | true =>
  go_enter Tryz.func159, Tryz.ntmps159
  go_wp2_with (first | (go_at_call 151; (with_reducible refine (HN.out _).mono ?_); rintro e w5 ⟨rfl, rfl⟩) | (go_at_call 150; (with_reducible refine (HT.out _).mono ?_); rintro e w5 ⟨rfl, rfl⟩))
  go_ret
  exact ⟨by simp, Below.refl _ _⟩
theorem texted_chk : Chk 163 base wk g c o f (textedB o) := by
 intro w h
 obtain ⟨c0, c1, c2, c3, c4, c5, c6⟩ := h.cells
 have hT : ∀ w, Calls Tryz.prog 150 #[.string o.text] w fun e w' => e = .returned (.bool (textB o.text.data.toList)) ∧ w = w' := fun w => Text_calls _ w
 have HT := Lib.hid hT
 clear h hT
 go_enter Tryz.func163, Tryz.ntmps163
 go_wp2_with (go_at_call 150; (with_reducible refine (HT.out _).mono ?_); rintro e w5 ⟨rfl, rfl⟩)
 go_ret
 exact ⟨rfl, Below.refl _ _⟩
theorem zero_chk : Chk 175 base wk g c o f (o.id != 0) := by
 intro w h
 obtain ⟨c0, c1, c2, c3, c4, c5, c6⟩ := h.cells
 clear h
 go_enter Tryz.func175, Tryz.ntmps175
 go_wp2
 go_ret
 exact ⟨rfl, Below.refl _ _⟩
theorem known_chk : Chk 158 base wk g c o f (knownB f o) := by
 intro w h
 obtain ⟨c0, c1, c2, c3, c4, c5, c6⟩ := h.cells
 have hl := h.big
 unfold knownB
 clear h
 by_cases h0 : 0 ≤ o.id
 ·have e1 : isNode f o.id = decide (o.id < f.length) := by unfold isNode; rw [decide_eq_true h0, Bool.true_and]
  rw [e1]
  go_enter Tryz.func158, Tryz.ntmps158
  go_wp2_with fail
  go_quiet (fail)
  go_wp2_with fail
  go_ret
  exact ⟨rfl, drewN_below (Below.refl _ _) _⟩
 ·have e1 : isNode f o.id = false := by unfold isNode; rw [decide_eq_false h0, Bool.false_and]
  have hd : decide (0 ≤ o.id) = false := decide_eq_false h0
  rw [e1]
  go_enter Tryz.func158, Tryz.ntmps158
  go_wp2_with fail
  go_quiet (fail)
  go_wp2_with fail
  go_ret
  exact ⟨rfl, drewN_below (Below.refl _ _) _⟩
theorem to_chk : Chk 166 base wk g c o f (isNode f o.to) := by
 intro w h
 obtain ⟨c0, c1, c2, c3, c4, c5, c6⟩ := h.cells
 have hl := h.big
 clear h
 by_cases h0 : 0 ≤ o.to
 ·have e1 : isNode f o.to = decide (o.to < f.length) := by unfold isNode; rw [decide_eq_true h0, Bool.true_and]
  rw [e1]
  go_enter Tryz.func166, Tryz.ntmps166
  go_wp2_with fail
  go_quiet (fail)
  go_wp2_with fail
  go_ret
  exact ⟨rfl, drewN_below (Below.refl _ _) _⟩
 ·have e1 : isNode f o.to = false := by unfold isNode; rw [decide_eq_false h0, Bool.false_and]
  have hd : decide (0 ≤ o.to) = false := decide_eq_false h0
  rw [e1]
  go_enter Tryz.func166, Tryz.ntmps166
  go_wp2_with fail
  go_quiet (fail)
  go_wp2_with fail
  go_ret
  exact ⟨rfl, drewN_below (Below.refl _ _) _⟩
def NodePost (g : Nat) (i : Int) (w : World) (e : Ending) (w' : World) : Prop := e = .returned (.pointer (some ⟨g, i.toNat * 6, none⟩)) ∧ ∃ n, w' = w.drewN n
theorem node_calls (w : World) (h : Wk base wk g c o f w) (hi : isNode f o.id = true) : Calls Tryz.prog 173 #[.pointer (some ⟨wk, 0, none⟩)] w (NodePost g o.id w) := by
 obtain ⟨c0, c1, c2, c3, c4, c5, c6⟩ := h.cells
 have hl := h.big
 obtain ⟨k, hk, hkl⟩ := node_nat hi
 rw [hk] at c2 ⊢
 have hkn : (k : Int) < f.length := by omega
 clear h hi hk
 go_enter Tryz.func173, Tryz.ntmps173
 go_wp2_with fail
 go_quiet (fail)
 go_wp2_with fail
 go_ret
 exact ⟨by simp, _, rfl⟩
end
end Go.Proofs.YtmbhkkophkccbaaGreat.Work
end
