/- Joined by a program: R7O, R7L, Its7, Ops7. -/
import Derived.Deep.RegionHeld3
import Derived.Deep.AppendLies
import Derived.Deep.RegionLaw
import Derived.Laws.OwnMore
import Derived.Maps.AppendAt
import Derived.Test.YthdenkkllpkplaaGreatC19
import Derived.Test.YthdenkkllpkplaaGreatC21
import Derived.Test.YthdenkkllpkplaaGreatC23
import Derived.Test.YthdenkkllpkplaaGreatC14
import Derived.Test.YthdenkkllpkplaaGreatC11
import Derived.Test.YthdenkkllpkplaaGreatC09
import Derived.Test.YthdenkkllpkplaaGreatC08
import Derived.Test.YthdenkkllpkplaaGreatC07
section
/- treillageref07: One. -/
namespace Go.Proofs.YthdenkkllpkplaaGreat.R7
open Go Go.RowKit Go.Proofs.YthdenkkllpkplaaGreat.Seq Go.Proofs.YthdenkkllpkplaaGreat.WS Go.Proofs.YthdenkkllpkplaaGreat.FS Go.Proofs.YthdenkkllpkplaaGreat.Mem Go.Proofs.YthdenkkllpkplaaGreat.Rd Go.Proofs.YthdenkkllpkplaaGreat.Shapes Go.Proofs.YthdenkkllpkplaaGreat.Word Go.Proofs.YthdenkkllpkplaaGreat.FFam Go.Proofs.YthdenkkllpkplaaGreat.OwnF
set_option linter.unusedVariables false
set_option linter.unusedSimpArgs false
theorem may_attrs {f : Fo} (hm : mayB f = true) : ∀ n ∈ f, n.attrs.length ≤ 8 := by
  intro n hn
  obtain ⟨i, hi, rfl⟩ := List.mem_iff_getElem.1 hn
  have h := ((may_is hm).node i hi).1
  rw [atN hi] at h
  unfold plainB at h
  by_cases h0 : f[i].kind = 0
  · rw [if_pos h0] at h
    simp only [Bool.and_eq_true, decide_eq_true_eq] at h
    rw [h.2]; exact Nat.zero_le _
  by_cases h1 : f[i].kind = 1
  · rw [if_neg h0, if_pos h1] at h
    simp only [Bool.and_eq_true] at h
    exact ((attrsB_iff _).1 h.2).2.2
  rw [if_neg h0, if_neg h1] at h
  split at h
  · simp only [Bool.and_eq_true, decide_eq_true_eq] at h
    rw [h.1.2]; exact Nat.zero_le _
  · cases h
theorem size_nil {s : ByteArray} (h : s.size = 0) : s = ⟨#[]⟩ := by
  obtain ⟨a⟩ := s
  have : a.size = 0 := h
  rw [Array.eq_empty_of_size_eq_zero this]
theorem room_is {f : Fo} (hm : mayB f = true) : roomB f = decide (f.length ≠ 60) := by
  unfold roomB
  have := (may_len hm).2
  by_cases h : f.length = 60
  · rw [decide_eq_false (by omega), decide_eq_false (by omega)]
  · rw [decide_eq_true (by omega), decide_eq_true h]
theorem fresh_1 {f : Fo} {o : Opn} (hm : mayB f = true) (hmo : mayO o = true) (hk : o.kind = 1) : frE f (nameB o.name.data.toList) = oneE f o ∧ frF f (nameB o.name.data.toList) 1 o.name ⟨#[]⟩ = oneF f o := by
  have hmk := mayO_kind hmo
  have htx : o.text.size = 0 := by
    rcases hmk.2.2.2.2 with h | h
    · exfalso; unfold shapeT at h; rw [hk] at h; cases h
    · exact h
  have htn := size_nil htx
  have ht : textB o.text.data.toList = true := by rw [htn]; decide
  have e : oneE f o = frE f (nameB o.name.data.toList) := by
    unfold oneE checks
    rw [if_pos hmo, if_pos hk, firstE_two, room_is hm]
    unfold namedB frE
    rw [ht, Bool.and_true]
    cases nameB o.name.data.toList
    · rfl
    · by_cases h : f.length = 60 <;> simp [h]
  refine ⟨e.symm, ?_⟩
  unfold frF oneF
  rw [← e]
  by_cases h0 : oneE f o = 0
  · rw [if_pos h0, if_pos h0]
    unfold doF freshF
    rw [if_pos (by omega), hk, htn]
  · rw [if_neg h0, if_neg h0]
theorem fresh_23 {f : Fo} {o : Opn} (hm : mayB f = true) (hmo : mayO o = true) (hk : o.kind = 2 ∨ o.kind = 3) : frE f (textB o.text.data.toList) = oneE f o ∧ frF f (textB o.text.data.toList) o.kind ⟨#[]⟩ o.text = oneF f o := by
  have hmk := mayO_kind hmo
  have htx : o.name.size = 0 := by
    rcases hmk.2.2.2.1 with h | h
    · exfalso; unfold shapeA at h; rcases hk with hk | hk <;> rw [hk] at h <;> cases h
    · exact h
  have htn := size_nil htx
  have e : oneE f o = frE f (textB o.text.data.toList) := by
    unfold oneE checks
    rw [if_pos hmo, if_neg (by omega), if_pos hk, firstE_two, room_is hm]
    unfold textedB frE
    cases textB o.text.data.toList
    · rfl
    · by_cases h : f.length = 60 <;> simp [h]
  refine ⟨e.symm, ?_⟩
  unfold frF oneF
  rw [← e]
  by_cases h0 : oneE f o = 0
  · rw [if_pos h0, if_pos h0]
    unfold doF freshF
    rw [if_pos (by omega), htn]
  · rw [if_neg h0, if_neg h0]
set_option maxRecDepth 100000 in
set_option maxHeartbeats 8000000 in
theorem One_calls (w : World) (f : Fo) (v : Value) (o : Opn) (h : RdF w.heap.size w v f) (hm : mayB f = true) (hsn : o.name.size ≤ maxLen) (hst : o.text.size ≤ maxLen) :
    Calls Tryz.prog 24 #[v, opV o] w (RefPost f o w) := by
  obtain ⟨W0, hW0⟩ : ∃ W0, w.alloc (.cells #[.int .i64 o.kind, .int .i64 o.id, .int .i64 o.to, .int .i64 o.at_, .string o.name, .string o.text] 40) = W0 := ⟨_, rfl⟩
  have hrow : W0.heap[w.heap.size]? = some (.cells (OpMay.opRow o) 40 (0, 0)) := by rw [← hW0]; exact World.alloc_heap_new w _
  have hb0 : Below w.heap.size w W0 := by rw [← hW0]; exact (Below.refl _ _).alloc (Nat.le_refl _) _
  have hbox := fun w' (hb : Below W0.heap.size W0 w') => rop_cells ((hb.block w.heap.size (lt_heap hrow)).trans hrow)
  have hrd := fun w' (hb : Below w.heap.size w w') => (h.below nodeE_keeps (w' := w') hb (Nat.le_refl _)).mono nodeE_keeps hb.size
  have hta : ∀ n ∈ f, n.attrs.length ≤ 1000 := fun n hn => by have := may_attrs hm n hn; omega
  have htk : ∀ n ∈ f, n.kids.length ≤ 1000 := fun n hn => by have := Work.may_kids hm n hn; omega
  have hlen := may_len hm
  have hup : ∀ e w1 w2, Below w.heap.size w w1 → RefPost f o w1 e w2 → RefPost f o w e w2 := fun _ _ _ hb ⟨v', h1, h2, h3⟩ => ⟨v', h1, h2, bthen hb h3⟩
  have hfr : ∀ (w1 w2 : World) (e : Ending) (good : Bool) (kd : Int) (nm tx : ByteArray), frE f good = oneE f o → frF f good kd nm tx = oneF f o → Below w.heap.size w w1 → FrPost f good kd nm tx w1 e w2 → RefPost f o w e w2 := fun w1 w2 e good kd nm tx e1 e2 hb ⟨v', h1, h2, h3⟩ => ⟨v', by rw [← e1]; exact h1, by rw [← e2]; exact h2, bthen hb h3⟩
  have hmc := fun w' => R6.May_calls o w'
  obtain ⟨z0, z1, z2, z3, z4, z5, zf⟩ := hbox W0 (Below.refl _ _)
  have HW0 := Lib.hid hW0; have HB0 := Lib.hid hb0; have Hbox := Lib.hid hbox; have Hrd := Lib.hid hrd; have Hta := Lib.hid hta; have Htk := Lib.hid htk; have Hup := Lib.hid hup; have Hfr := Lib.hid hfr; have Hm := Lib.hid hm; have Hlen := Lib.hid hlen
  cases hmo : mayO o with
  | false =>
    have hE : oneE f o = 1 := one_arg hmo
    have hF : oneF f o = f := one_err (by rw [hE]; decide)
    have HE := Lib.hid hE; have HF := Lib.hid hF
    have Hmc := Lib.hid hmc
    rw [hmo] at Hmc
    clear hE hF hmc hmo hW0 hb0 hbox hrd hta htk hup hfr hm hlen hrow h
    go_enter Tryz.func24, Tryz.ntmps24
    go_upto_region 1 with fail
    rw [HW0.out]
    go_wp2_with (go_at_call 59; (with_reducible refine (Hmc.out _).mono ?_); rintro e w1 ⟨rfl, hb1⟩; have Hb1 := Lib.hid (bthen HB0.out hb1); clear hb1)
    go_ret2
    exact ⟨_, by rw [HE.out]; rfl, by rw [HF.out]; exact Hrd.out _ Hb1.out, Hb1.out⟩
  | true =>
    have Hmc := Lib.hid hmc
    rw [hmo] at Hmc
    have Hmo := Lib.hid hmo
    have hk8 := (mayO_kind hmo).1
    clear hmc hmo hW0 hb0 hbox hrd hta htk hup hfr hm hlen hrow
    go_enter Tryz.func24, Tryz.ntmps24
    go_upto_region 1 with fail
    rw [HW0.out]
    go_upto_region 3 with (go_at_call 59; (with_reducible refine (Hmc.out _).mono ?_); rintro e w1 ⟨rfl, hb1⟩; have HB1 := Lib.hid hb1; have Hb1 := Lib.hid (bthen HB0.out hb1); clear hb1)
    clear z0 z1 z2 z3 z4 z5 zf
    obtain ⟨z0, z1, z2, z3, z4, z5, zf⟩ := Hbox.out w1 HB1.out
    have hks : o.kind = 1 ∨ o.kind = 2 ∨ o.kind = 3 ∨ o.kind = 4 ∨ o.kind = 5 ∨ o.kind = 6 ∨ o.kind = 7 ∨ o.kind = 8 := by omega
    rcases hks with hk | hk | hk | hk | hk | hk | hk | hk
    · have hfe := fresh_1 Hm.out Hmo.out hk
      have hgc := fun w' => R2.Name_calls o.name (by simp only [maxLen] at hsn; omega) w'
      have hfc := fun w' (hb : Below w.heap.size w w') => fresh_calls w' f v (Hrd.out w' hb) Hlen.out.1 Hlen.out.2 Hta.out Htk.out 1 o.name ⟨#[]⟩ 0 (nameB o.name.data.toList) (by decide) hsn (by decide)
      generalize nameB o.name.data.toList = good at *
      have Hfe := Lib.hid hfe; have Hgc := Lib.hid hgc; have Hfc := Lib.hid hfc; have Hk := Lib.hid hk
      rw [hk] at z0
      clear hk hk8 hfe hgc hfc
      go_upto_region 5 with fail
      go_region_held3 (fun w' => w'.cell? ⟨w.heap.size, 4, none⟩ = some (.string o.name))
        (first | exact z4 | exact y4 | go_keep)
        (first
          | (go_at_call 61; (with_reducible refine (Hgc.out _).mono ?_); rintro e w2 ⟨rfl, rfl⟩)
          | (go_at_call 60; (first | (with_reducible refine (Hfc.out _ Hb1.out).mono ?_) | (with_reducible refine (Hfc.out _ Hb1.out.drew).mono ?_)); intro e w2 hp2; first | (have hb3 := hp2.choose_spec.2.2; obtain ⟨y0, y1, y2, y3, y4, y5, yf⟩ := Hbox.out w2 (bthen HB1.out hb3); rw [Hk.out] at y0; obtain ⟨v2, rfl, hr2, hb2⟩ := Hfr.out _ _ _ _ _ _ _ Hfe.out.1 Hfe.out.2 Hb1.out hp2; have Hr2 := Lib.hid hr2; have Hb2 := Lib.hid hb2; clear hr2 hb2 hp2 hb3) | (have hb3 := (Below.refl _ w1).drew.trans hp2.choose_spec.2.2; obtain ⟨y0, y1, y2, y3, y4, y5, yf⟩ := Hbox.out w2 (bthen HB1.out hb3); rw [Hk.out] at y0; obtain ⟨v2, rfl, hr2, hb2⟩ := Hfr.out _ _ _ _ _ _ _ Hfe.out.1 Hfe.out.2 Hb1.out.drew hp2; have Hr2 := Lib.hid hr2; have Hb2 := Lib.hid hb2; clear hr2 hb2 hp2 hb3)))
      all_goals go_wp2_with fail
      all_goals go_ret2
      all_goals exact ⟨v2, rfl, Hr2.out, Hb2.out⟩
    · have hfe := fresh_23 Hm.out Hmo.out (.inl hk)
      rw [hk] at hfe
      have hgc := fun w' => R2.Text_calls o.text w'
      have hfc := fun w' (hb : Below w.heap.size w w') => fresh_calls w' f v (Hrd.out w' hb) Hlen.out.1 Hlen.out.2 Hta.out Htk.out 2 ⟨#[]⟩ o.text 0 (textB o.text.data.toList) (by decide) (by decide) hst
      generalize textB o.text.data.toList = good at *
      have Hfe := Lib.hid hfe; have Hgc := Lib.hid hgc; have Hfc := Lib.hid hfc; have Hk := Lib.hid hk
      rw [hk] at z0
      clear hk hk8 hfe hgc hfc
      go_upto_region 8 with fail
      go_region_held3 (fun w' => w'.cell? ⟨w.heap.size, 0, none⟩ = some (.int .i64 2) ∧ w'.cell? ⟨w.heap.size, 5, none⟩ = some (.string o.text))
        (first | exact ⟨z0, z5⟩ | exact ⟨y0, y5⟩ | go_keep)
        (first
          | (go_at_call 62; (with_reducible refine (Hgc.out _).mono ?_); rintro e w2 ⟨rfl, rfl⟩)
          | (go_at_call 60; (first | (with_reducible refine (Hfc.out _ Hb1.out).mono ?_) | (with_reducible refine (Hfc.out _ Hb1.out.drew).mono ?_)); intro e w2 hp2; first | (have hb3 := hp2.choose_spec.2.2; obtain ⟨y0, y1, y2, y3, y4, y5, yf⟩ := Hbox.out w2 (bthen HB1.out hb3); rw [Hk.out] at y0; obtain ⟨v2, rfl, hr2, hb2⟩ := Hfr.out _ _ _ _ _ _ _ Hfe.out.1 Hfe.out.2 Hb1.out hp2; have Hr2 := Lib.hid hr2; have Hb2 := Lib.hid hb2; clear hr2 hb2 hp2 hb3) | (have hb3 := (Below.refl _ w1).drew.trans hp2.choose_spec.2.2; obtain ⟨y0, y1, y2, y3, y4, y5, yf⟩ := Hbox.out w2 (bthen HB1.out hb3); rw [Hk.out] at y0; obtain ⟨v2, rfl, hr2, hb2⟩ := Hfr.out _ _ _ _ _ _ _ Hfe.out.1 Hfe.out.2 Hb1.out.drew hp2; have Hr2 := Lib.hid hr2; have Hb2 := Lib.hid hb2; clear hr2 hb2 hp2 hb3)))
      all_goals go_wp2_with fail
      all_goals go_ret2
      all_goals exact ⟨v2, rfl, Hr2.out, Hb2.out⟩
    · have hfe := fresh_23 Hm.out Hmo.out (.inr hk)
      rw [hk] at hfe
      have hgc := fun w' => R2.Text_calls o.text w'
      have hfc := fun w' (hb : Below w.heap.size w w') => fresh_calls w' f v (Hrd.out w' hb) Hlen.out.1 Hlen.out.2 Hta.out Htk.out 3 ⟨#[]⟩ o.text 0 (textB o.text.data.toList) (by decide) (by decide) hst
      generalize textB o.text.data.toList = good at *
      have Hfe := Lib.hid hfe; have Hgc := Lib.hid hgc; have Hfc := Lib.hid hfc; have Hk := Lib.hid hk
      rw [hk] at z0
      clear hk hk8 hfe hgc hfc
      go_upto_region 8 with fail
      go_region_held3 (fun w' => w'.cell? ⟨w.heap.size, 0, none⟩ = some (.int .i64 3) ∧ w'.cell? ⟨w.heap.size, 5, none⟩ = some (.string o.text))
        (first | exact ⟨z0, z5⟩ | exact ⟨y0, y5⟩ | go_keep)
        (first
          | (go_at_call 62; (with_reducible refine (Hgc.out _).mono ?_); rintro e w2 ⟨rfl, rfl⟩)
          | (go_at_call 60; (first | (with_reducible refine (Hfc.out _ Hb1.out).mono ?_) | (with_reducible refine (Hfc.out _ Hb1.out.drew).mono ?_)); intro e w2 hp2; first | (have hb3 := hp2.choose_spec.2.2; obtain ⟨y0, y1, y2, y3, y4, y5, yf⟩ := Hbox.out w2 (bthen HB1.out hb3); rw [Hk.out] at y0; obtain ⟨v2, rfl, hr2, hb2⟩ := Hfr.out _ _ _ _ _ _ _ Hfe.out.1 Hfe.out.2 Hb1.out hp2; have Hr2 := Lib.hid hr2; have Hb2 := Lib.hid hb2; clear hr2 hb2 hp2 hb3) | (have hb3 := (Below.refl _ w1).drew.trans hp2.choose_spec.2.2; obtain ⟨y0, y1, y2, y3, y4, y5, yf⟩ := Hbox.out w2 (bthen HB1.out hb3); rw [Hk.out] at y0; obtain ⟨v2, rfl, hr2, hb2⟩ := Hfr.out _ _ _ _ _ _ _ Hfe.out.1 Hfe.out.2 Hb1.out.drew hp2; have Hr2 := Lib.hid hr2; have Hb2 := Lib.hid hb2; clear hr2 hb2 hp2 hb3)))
      all_goals go_wp2_with fail
      all_goals go_ret2
      all_goals exact ⟨v2, rfl, Hr2.out, Hb2.out⟩
    · have hc := insert_calls w1 f v o (Hrd.out _ Hb1.out) Hm.out Hmo.out hk Hta.out
      rw [show opV o = .agg #[.int .i64 4, .int .i64 o.id, .int .i64 o.to, .int .i64 o.at_, .string o.name, .string o.text] by unfold opV; rw [hk]] at hc
      have Hc := Lib.hid hc
      clear hc
      rw [hk] at z0
      clear hk hk8
      go_wp2_with (go_at_call 63; (with_reducible refine (Hc.out).mono ?_); intro e w2 hp2; obtain ⟨v2, rfl, hr2, hb2⟩ := Hup.out _ _ _ Hb1.out hp2; have Hr2 := Lib.hid hr2; have Hb2 := Lib.hid hb2; clear hr2 hb2 hp2)
      go_ret2
      exact ⟨v2, rfl, Hr2.out, Hb2.out⟩
    · have hc := remove_calls w1 f v o (Hrd.out _ Hb1.out) Hm.out Hmo.out hk Hta.out
      rw [show opV o = .agg #[.int .i64 5, .int .i64 o.id, .int .i64 o.to, .int .i64 o.at_, .string o.name, .string o.text] by unfold opV; rw [hk]] at hc
      have Hc := Lib.hid hc
      clear hc
      rw [hk] at z0
      clear hk hk8
      go_wp2_with (go_at_call 64; (with_reducible refine (Hc.out).mono ?_); intro e w2 hp2; obtain ⟨v2, rfl, hr2, hb2⟩ := Hup.out _ _ _ Hb1.out hp2; have Hr2 := Lib.hid hr2; have Hb2 := Lib.hid hb2; clear hr2 hb2 hp2)
      go_ret2
      exact ⟨v2, rfl, Hr2.out, Hb2.out⟩
    · have hc := set_calls w1 f v o (Hrd.out _ Hb1.out) Hm.out Hmo.out hk Hta.out hsn hst
      rw [show opV o = .agg #[.int .i64 6, .int .i64 o.id, .int .i64 o.to, .int .i64 o.at_, .string o.name, .string o.text] by unfold opV; rw [hk]] at hc
      have Hc := Lib.hid hc
      clear hc
      rw [hk] at z0
      clear hk hk8
      go_wp2_with (go_at_call 65; (with_reducible refine (Hc.out).mono ?_); intro e w2 hp2; obtain ⟨v2, rfl, hr2, hb2⟩ := Hup.out _ _ _ Hb1.out hp2; have Hr2 := Lib.hid hr2; have Hb2 := Lib.hid hb2; clear hr2 hb2 hp2)
      go_ret2
      exact ⟨v2, rfl, Hr2.out, Hb2.out⟩
    · have hc := unset_calls w1 f v o (Hrd.out _ Hb1.out) Hm.out Hmo.out hk Hta.out
      rw [show opV o = .agg #[.int .i64 7, .int .i64 o.id, .int .i64 o.to, .int .i64 o.at_, .string o.name, .string o.text] by unfold opV; rw [hk]] at hc
      have Hc := Lib.hid hc
      clear hc
      rw [hk] at z0
      clear hk hk8
      go_wp2_with (go_at_call 66; (with_reducible refine (Hc.out).mono ?_); intro e w2 hp2; obtain ⟨v2, rfl, hr2, hb2⟩ := Hup.out _ _ _ Hb1.out hp2; have Hr2 := Lib.hid hr2; have Hb2 := Lib.hid hb2; clear hr2 hb2 hp2)
      go_ret2
      exact ⟨v2, rfl, Hr2.out, Hb2.out⟩
    · have hc := change_calls w1 f v o (Hrd.out _ Hb1.out) Hm.out Hmo.out hk Hta.out hst
      rw [show opV o = .agg #[.int .i64 8, .int .i64 o.id, .int .i64 o.to, .int .i64 o.at_, .string o.name, .string o.text] by unfold opV; rw [hk]] at hc
      have Hc := Lib.hid hc
      clear hc
      rw [hk] at z0
      clear hk hk8
      go_wp2_with (go_at_call 67; (with_reducible refine (Hc.out).mono ?_); intro e w2 hp2; obtain ⟨v2, rfl, hr2, hb2⟩ := Hup.out _ _ _ Hb1.out hp2; have Hr2 := Lib.hid hr2; have Hb2 := Lib.hid hb2; clear hr2 hb2 hp2)
      go_ret2
      exact ⟨v2, rfl, Hr2.out, Hb2.out⟩
end Go.Proofs.YthdenkkllpkplaaGreat.R7
end
section
/- treillageref07: All. -/
namespace Go.Proofs.YthdenkkllpkplaaGreat.R7
open Go Go.RowKit Go.Proofs.YthdenkkllpkplaaGreat.Seq Go.Proofs.YthdenkkllpkplaaGreat.WS Go.Proofs.YthdenkkllpkplaaGreat.FS Go.Proofs.YthdenkkllpkplaaGreat.Mem Go.Proofs.YthdenkkllpkplaaGreat.Rd Go.Proofs.YthdenkkllpkplaaGreat.Shapes Go.Proofs.YthdenkkllpkplaaGreat.Word Go.Proofs.YthdenkkllpkplaaGreat.FFam Go.Proofs.YthdenkkllpkplaaGreat.Grown Go.Proofs.YthdenkkllpkplaaGreat.Ap
set_option linter.unusedVariables false
set_option linter.unusedSimpArgs false
set_option maxRecDepth 100000 in
set_option maxHeartbeats 4000000 in
theorem All_calls (w : World) (v vl : Value) (f : Fo) (l : List Opn) (h : RdF w.heap.size w v f) (hm : mayB f = true) (hl : RdO w.heap.size w vl l) : Calls Tryz.prog 30 #[v, vl] w (AllPost f l w) := by
  have hrd := fun w' (hb : Below w.heap.size w w') => hl.below opE_keeps (w' := w') hb (Nat.le_refl _)
  have hrf := fun w' (hb : Below w.heap.size w w') => (h.below nodeE_keeps (w' := w') hb (Nat.le_refl _)).mono nodeE_keeps hb.size
  obtain ⟨A0, c0, rfl, hl0, hc0, _⟩ := hl.form
  simp only [maxLen] at hc0
  obtain ⟨Af, cf, rfl, _, _, _⟩ := h.form
  have Hrd := Lib.hid hrd; have Hrf := Lib.hid hrf; have Hm := Lib.hid hm
  clear h hrd hrf hl hm
  go_enter Tryz.func30, Tryz.ntmps30
  go_wp2_with fail
  go_loopw [7, 8] (fun g i wr => ∃ (k : Nat) (G : Fo), k ≤ l.length ∧ i = .int .i64 k ∧ RdF wr.heap.size wr g G ∧ Hid (mayB G = true ∧ allE f l = allE G (l.drop k) ∧ allN f l = k + allN G (l.drop k) ∧ allG f l = allG G (l.drop k)) ∧ Below w.heap.size w wr) (fun _ i _ => l.length - (intOf i).toNat)
  case atStart => exact ⟨0, f, Nat.zero_le _, rfl, Hrf.out _ (Below.refl _ _), Lib.hid ⟨Hm.out, rfl, by simp, rfl⟩, Below.refl _ _⟩
  case round =>
    obtain ⟨k, G, hk, rfl, hr, hG, hb⟩ := hrel
    obtain ⟨hmg, hE, hN, hS⟩ := hG.out
    obtain ⟨A3, c3, rfl, _, _, hr'⟩ := hr.form
    by_cases hlt : k < l.length
    · obtain ⟨b, o, rfl, hbl, g0, g1, g2, g3, g4, g5, m1, m2, m3, m4⟩ := op_at (Hrd.out _ hb) hlt
      have hdk : l.drop k = l[k] :: l.drop (k + 1) := List.drop_eq_getElem_cons hlt
      have hone := fun w' (hb' : Below wr.heap.size wr w') => One_calls w' G _ l[k] ((hr'.below nodeE_keeps (w' := w') hb' (Nat.le_refl _)).mono nodeE_keeps hb'.size) hmg m1 m2
      unfold RefPost at hone
      have hmn := one_may hmg l[k]
      rw [hdk] at hE hN hS
      generalize l[k] = x at *
      have Hone := Lib.hid hone; have Hb := Lib.hid hb
      by_cases he : oneE G x = 0
      · rw [he] at Hone
        have h1 : allE f l = allE (oneF G x) (l.drop (k + 1)) := by rw [hE, allE, if_pos he]
        have h2 : allN f l = (k + 1) + allN (oneF G x) (l.drop (k + 1)) := by rw [hN, allN, if_pos he]; omega
        have h3 : allG f l = allG (oneF G x) (l.drop (k + 1)) := by rw [hS, allG, if_pos he]
        have HH := Lib.hid (And.intro hmn (And.intro h1 (And.intro h2 h3)))
        clear hone hb hE hN hS hG hmg hr hr' m1 m2 m3 m4 h1 h2 h3 hmn hdk
        go_wp2_with (go_at_call 24; ((with_reducible refine (Hone.out _ (Below.refl _ _)).mono ?_); rintro e w5 ⟨v5, rfl, hr5, hb5⟩; have Hr5 := Lib.hid hr5; have Hb5 := Lib.hid hb5; clear hr5 hb5))
        go_roundw
        case rel => exact ⟨k + 1, oneF G x, by omega, by go_num, Hr5.out, HH, bthen Hb.out Hb5.out⟩
        case measure => simp [intOf]; omega
      · have hq1 : (oneE G x != 0) = true := by rw [bne_iff_ne]; exact he
        have hq2 : (oneE G x == 0) = false := by rw [beq_eq_false_iff_ne]; exact he
        have h1 : allE f l = oneE G x := by rw [hE, allE, if_neg he]
        have h2 : allN f l = k := by rw [hN, allN, if_neg he]; omega
        have h3 : allF f l = f := by unfold allF; rw [if_neg (by rw [h1]; exact he)]
        have HH := Lib.hid (And.intro h1 (And.intro h2 h3))
        clear hone hb hE hN hS hG hmg hr hr' m1 m2 m3 m4 h1 h2 h3 hmn hdk
        generalize oneE G x = E at *
        go_wp2_with (go_at_call 24; ((with_reducible refine (Hone.out _ (Below.refl _ _)).mono ?_); rintro e w5 ⟨v5, rfl, hr5, hb5⟩; have Hr5 := Lib.hid hr5; have Hb5 := Lib.hid hb5; clear hr5 hb5))
        go_ret3
        exact ⟨.slice Af f.length cf, (by rw [HH.out.1, HH.out.2.1]; rfl), by rw [HH.out.2.2]; exact Hrf.out _ (bthen Hb.out Hb5.out), bthen Hb.out Hb5.out⟩
    · have hd : l.drop k = [] := List.drop_eq_nil_of_le (by omega)
      rw [hd] at hE hN hS
      have h1 : allE f l = 0 := hE
      have h2 : allN f l = l.length := by rw [hN]; show k + 0 = _; omega
      have h3 : allF f l = G := by unfold allF; rw [if_pos h1]; exact hS
      have HH := Lib.hid (And.intro h1 (And.intro h2 h3)); have Hr := Lib.hid hr; have Hb := Lib.hid hb
      clear hE hN hS hG hmg hr hr' hb h1 h2 h3 hd
      go_wp2_with fail
      go_ret3
      exact ⟨.slice A3 G.length c3, (by rw [HH.out.1, HH.out.2.1]; rfl), by rw [HH.out.2.2]; exact Hr.out, Hb.out⟩
end Go.Proofs.YthdenkkllpkplaaGreat.R7
end
section
/- treillagelaw07.its: as Its, of another law. -/
namespace Go.Proofs.YthdenkkllpkplaaGreat.Its7
open Go Go.RowKit Go.Proofs.YthdenkkllpkplaaGreat.Seq Go.Proofs.YthdenkkllpkplaaGreat.WS Go.Proofs.YthdenkkllpkplaaGreat.FS Go.Proofs.YthdenkkllpkplaaGreat.Mem Go.Proofs.YthdenkkllpkplaaGreat.Rd Go.Proofs.YthdenkkllpkplaaGreat.Shapes Go.Proofs.YthdenkkllpkplaaGreat.Word Go.Proofs.YthdenkkllpkplaaGreat.FFam Go.Proofs.YthdenkkllpkplaaGreat.OwnF Go.Proofs.YthdenkkllpkplaaGreat.Its
set_option linter.unusedVariables false
set_option linter.unusedSimpArgs false

set_option maxRecDepth 100000 in
set_option maxHeartbeats 8000000 in
theorem its_calls (w : World) (v : Value) (f : Fo) (h : RdF w.heap.size w v f) (hl70 : f.length ≤ 1000) (ha12 : ∀ n ∈ f, n.attrs.length ≤ 1000) :
    Calls Tryz.prog 26 #[v] w fun e w' => ∃ u, e = .returned u ∧ OwnF 86 w.heap.size w' u f ∧ Below w.heap.size w w' := by
  obtain ⟨A0, c0, rfl, hl0, hc0, h'⟩ := h.form
  simp only [maxLen] at hc0
  obtain ⟨i0, hi0, hz0, hz1, hz2⟩ := info_parts info_rnode
  obtain ⟨i1, hi1, hy0, hy1, hy2⟩ := info_parts info_rattr
  have Hh := Lib.hid h'; have Ha := Lib.hid ha12
  clear h h' ha12
  go_enter Tryz.func26, Tryz.ntmps26
  go_wp2_with fail
  have hown0 : (w.alloc (.cells #[] 86)).ownsRow w.heap.size 86 6 (.slice (some ⟨w.heap.size, 0, none⟩) 0 0) 0 [] := World.ownsRow_made w #[] 0 (Nat.le_refl _) (by simp [maxLen]) (by simp)
  have hO0 : OwnF 86 w.heap.size (w.alloc (.cells #[] 86)) (.slice (some ⟨w.heap.size, 0, none⟩) 0 0) (f.take 0) := ⟨[], hown0, fun i hi => absurd hi (by simp)⟩
  have HO0 := Lib.hid hO0
  clear hown0 hO0
  go_loopw [3, 4] (fun u i wr => ∃ k : Nat, k ≤ f.length ∧ i = .int .i64 k ∧ Hid (OwnF 86 w.heap.size wr u (f.take k)) ∧ Below w.heap.size w wr) (fun _ i _ => f.length - (intOf i).toNat)
  case atStart => exact ⟨0, Nat.zero_le _, rfl, HO0, (Below.refl _ _).alloc (Nat.le_refl _) _⟩
  case round =>
    obtain ⟨k, hk, rfl, hO, hb⟩ := hrel
    obtain ⟨xsO, hrowO, hndO⟩ := hO.out
    obtain ⟨AO, nO, cO, rfl⟩ := Build.own_form hrowO
    have HrowO := Lib.hid hrowO; have HndO := Lib.hid hndO
    clear hrowO hndO
    by_cases hlt : k < f.length
    · obtain ⟨b, o, Aa, ca, Ak, ck, rfl, hbl, g0, g1, g2, g3, g4, g5, ra, rk, la, lca, lk, lck, m1, m2, m3, m4⟩ := node_at Hh.out hlt
      have han := Ha.out f[k] (List.getElem_mem _)
      have htk : f.take (k + 1) = f.take k ++ [f[k]] := List.take_succ_eq_append_getElem hlt
      generalize f[k] = n at *
      obtain ⟨kd, nm, tx, ats, par, kks⟩ := n
      simp only at *
      simp only [maxLen] at lca lck m1 m2
      have hkeep := fun w' (hb' : Below w.heap.size w w') => (⟨cell_below hb' g0 hbl, cell_below hb' g1 hbl, cell_below hb' g2 hbl, cell_below hb' g3 hbl, cell_below hb' g4 hbl, cell_below hb' g5 hbl⟩ : _ ∧ _ ∧ _ ∧ _ ∧ _ ∧ _)
      obtain ⟨p0, p1, p2, p3, p4, p5⟩ := hkeep wr hb
      have hbwr : b < wr.heap.size := Nat.lt_of_lt_of_le hbl hb.size
      have Hkeep := Lib.hid hkeep; have Hra := Lib.hid ra; have Hrk := Lib.hid rk; have Htk := Lib.hid htk; have Hb := Lib.hid hb; have Hm3 := Lib.hid m3; have Hm4 := Lib.hid m4
      obtain ⟨wo, rfl⟩ : ∃ wo : World, wo = wr := ⟨_, rfl⟩
      have Hsm := Lib.hid (show nm.size ≤ maxLen ∧ tx.size ≤ maxLen ∧ (Lit.int .i64 kd).wf = true ∧ (Lit.int .i64 par).wf = true from ⟨by simp only [maxLen]; omega, by simp only [maxLen]; omega, m3, m4⟩)
      have Ha2 := Lib.hid (attrs_small ra)
      clear g0 g1 g2 g3 g4 g5 hkeep ra rk htk hb m3 m4
      go_wp2_with fail
      go_region_held3 (fun w' => w'.cell? ⟨b, o + k * 6, none⟩ = some (.int .i64 kd) ∧ w'.cell? ⟨b, o + k * 6 + 1, none⟩ = some (.string nm) ∧ w'.cell? ⟨b, o + k * 6 + 2, none⟩ = some (.string tx) ∧ w'.cell? ⟨b, o + k * 6 + 4, none⟩ = some (.int .i64 par) ∧ w'.cell? ⟨b, o + k * 6 + 5, none⟩ = some (.slice Ak kks.length ck))
        (first | exact ⟨p0, p1, p2, p4, p5⟩ | go_keep)
        ((fail))
      go_wp2_with fail
      obtain ⟨gn, hgn⟩ : ∃ gn, gn = wo.heap.size := ⟨_, rfl⟩
      have hG0 : NBox gn kd nm tx par (.slice Ak kks.length ck) (ats.take 0) (.slice none 0 0) wo ((wo.alloc (.cells #[.int .i64 kd, .string nm, .string tx, .slice none 0 0, .int .i64 par, .slice Ak kks.length ck] 86)).drew) :=
        ⟨heap_new hgn, World.ownsRow_nil _ _ _ _, ((Below.refl _ wo).alloc (Nat.le_refl _) _).drew⟩
      rw [← hgn]
      have HG0 := Lib.hid hG0
      have Hgn := Lib.hid hgn
      clear hG0 p0 p1 p2 p3 p4 p5 hgn
      go_loopw [6] (fun i wi => ∃ (j : Nat) (va : Value), j ≤ ats.length ∧ i = .int .i64 j ∧ Hid (NBox gn kd nm tx par (.slice Ak kks.length ck) (ats.take j) va wo wi)) (fun i _ => ats.length - (intOf i).toNat)
      case atStart => exact ⟨0, _, Nat.zero_le _, rfl, HG0⟩
      case round =>
        obtain ⟨j, va, hj, rfl, hN⟩ := hrel
        have hbw : Below w.heap.size w wr := bthen Hb.out hN.out.2.2
        obtain ⟨p0, p1, p2, p3, p4, p5⟩ := Hkeep.out wr hbw
        by_cases hjl : j < ats.length
        · obtain ⟨hbx, hrow, hbel⟩ := hN.out
          obtain ⟨A3, n3, c3, rfl⟩ := Build.own_form hrow
          have k3 : wr.cell? ⟨gn, 3, none⟩ = some (.slice A3 n3 c3) := (cell_of_row _ _ _ _ _ _ hbx).trans rfl
          have k3f := free_of hbx 3
          have hgl := lt_heap hbx
          have hr2 := (Hra.out.below attrE_keeps (w' := wr) hbw (Nat.le_refl _))
          obtain ⟨ba, oa, rfl, hba, q0, q1, mm1, mm2⟩ := FAttr.attr_at hr2 hjl
          have htj : ats.take (j + 1) = ats.take j ++ [ats[j]] := List.take_succ_eq_append_getElem hjl
          generalize ats[j] = a at *
          obtain ⟨an, av⟩ := a
          simp only at *
          have hrow' : wr.ownsRow (gn + 1) 131 2 (.slice A3 n3 c3) j (atCells (ats.take j)) := by rw [List.length_take, Nat.min_eq_left (by omega)] at hrow; exact hrow
          have hne3 : (Value.slice A3 n3 c3).ownBlock ≠ some gn := fun e => by have := (hrow.lt gn e).1; omega
          have hbl2 : ba < wr.heap.size := World.block_lt_of_cell? wr _ q0
          have hjn : (j : Int) < ats.length := by omega
          have hkn : (k : Int) < f.length := by omega
          have Hrow := Lib.hid hrow'; have Hbx := Lib.hid hbx; have Hbel := Lib.hid hbel; have Htj := Lib.hid htj; have Hne3 := Lib.hid hne3; have Hgl := Lib.hid hgl
          clear hrow hrow' hbx hbel htj hr2 hne3 hbw
          go_wp2_with fail
          go_region_law (refine step_append_lies _ rfl (.tmp 51) (.tmp 60) 84 rfl (gn + 1) 131 i1 _ 2 32 Tryz.underlying84 hi1 hy0 hy1 hy2 rfl (by decide) (.slice A3 n3 c3) j (atCells (ats.take j)) (by simp [Act.eval, Act.put]) ((Hrow.out.alloc _).drew) ⟨wr.heap.size, 0, none⟩ 1 1 [.string an, .string av] (by simp [Act.eval, Act.put]) rfl (World.news_of_block (cs := #[.string an, .string av]) (t := 131) (fr := (0, 0)) (heap_alloc_new wr _)) (by simp [Value.oneCell']) (by omega) (by simp only [maxLen]; omega) (by omega) (by simp; omega) (wr.heap.size + 1) (by simp) ?_; intro g7 cap7 w7 hown7 hgrow7 hat7 hlt7; have e7 := (hgrow7.block gn (Nat.lt_of_lt_of_le Hgl.out (by simp)) (fun e => Hne3.out e.symm)).trans (heap_old Hbx.out); have k7 : w7.cell? ⟨gn, 3, none⟩ = some (.slice A3 n3 c3) := (cell_of_row _ _ _ _ _ _ e7).trans rfl; have k7f := free_of e7 3; have E7 := Lib.hid e7; have Hown7 := Lib.hid hown7; have Hgrow7 := Lib.hid hgrow7; have Hat7 := Lib.hid hat7; clear e7 hown7 hgrow7 hat7)
          all_goals go_wp2_with fail
          all_goals
            go_roundw
            case rel =>
              refine ⟨j + 1, .slice (some ⟨g7, 0, none⟩) (j + 1) cap7, by omega, by go_num, Lib.hid ?_⟩
              rw [Htj.out]
              refine nbox_step Hgn.out hN.out rfl ?_ Hgrow7.out Hat7.out
              rw [atCells_snoc, List.length_append, List.length_take, Nat.min_eq_left (by omega)]
              exact Hown7.out
            case measure => simp [intOf]; omega
        · obtain rfl : j = ats.length := by omega
          rw [List.take_length] at hN
          obtain ⟨hbx, hrow, hbel⟩ := hN.out
          obtain ⟨A3, n3, c3, rfl⟩ := Build.own_form hrow
          have k0 : wr.cell? ⟨gn, 0, none⟩ = some (.int .i64 kd) := (cell_of_row _ _ _ _ _ _ hbx).trans rfl
          have k1 : wr.cell? ⟨gn, 1, none⟩ = some (.string nm) := (cell_of_row _ _ _ _ _ _ hbx).trans rfl
          have k2 : wr.cell? ⟨gn, 2, none⟩ = some (.string tx) := (cell_of_row _ _ _ _ _ _ hbx).trans rfl
          have k3 : wr.cell? ⟨gn, 3, none⟩ = some (.slice A3 n3 c3) := (cell_of_row _ _ _ _ _ _ hbx).trans rfl
          have k4 : wr.cell? ⟨gn, 4, none⟩ = some (.int .i64 par) := (cell_of_row _ _ _ _ _ _ hbx).trans rfl
          have k5 : wr.cell? ⟨gn, 5, none⟩ = some (.slice Ak kks.length ck) := (cell_of_row _ _ _ _ _ _ hbx).trans rfl
          have hkl : (f.take k).length = k := by rw [List.length_take]; omega
          have hrO : wr.ownsRow w.heap.size 86 6 (.slice AO nO cO) k xsO := by
            have := own_keep HrowO.out (w' := wr) (fun g hg => hbel.block g (HrowO.out.lt g hg).2)
            rwa [hkl] at this
          have hrO2 := own_keep hrO (w' := wr.alloc (.cells #[.int .i64 kd, .string nm, .string tx, .slice A3 n3 c3, .int .i64 par, .slice Ak kks.length ck] 86)) (fun g hg => Below.heap_alloc _ _ _ (hrO.lt g hg).2)
          have HrO2 := Lib.hid hrO2; have HN := Lib.hid hN.out
          have hsz : w.heap.size ≤ wr.heap.size := hbw.size
          clear hbx hrow hbel hrO hrO2 hN
          go_wp2_with (at_builtin; go_loud (refine wpList_append_own_at (wr.alloc (.cells #[.int .i64 kd, .string nm, .string tx, .slice A3 n3 c3, .int .i64 par, .slice Ak kks.length ck] 86)) rfl _ _ 36 rfl w.heap.size 86 i0 _ 6 96 Tryz.underlying36 hi0 hz0 hz1 hz2 rfl (by decide) (.slice AO nO cO) k xsO rfl HrO2.out ⟨wr.heap.size, 0, none⟩ 1 1 [.int .i64 kd, .string nm, .string tx, .slice A3 n3 c3, .int .i64 par, .slice Ak kks.length ck] rfl rfl (World.news_of_block (cs := #[.int .i64 kd, .string nm, .string tx, .slice A3 n3 c3, .int .i64 par, .slice Ak kks.length ck]) (t := 86) (fr := (0, 0)) (heap_alloc_new wr _)) (by simp [Value.oneCell']) (by simp only [maxLen]; omega) (by omega) (by simp; omega) ?_; intro v8 w8 hown8 hgrow8 hnil8 hat8; have Hown8 := Lib.hid hown8; have Hgrow8 := Lib.hid hgrow8; have Hat8 := Lib.hid hat8; clear hown8 hgrow8 hnil8 hat8))
          go_roundw
          case rel =>
            refine ⟨k + 1, by omega, by go_num, Lib.hid ?_, ?_⟩
            · rw [Htk.out]
              exact out_step hkl HndO.out HrowO.out HN.out Hgn.out (Hrk.out.keep (intE_keeps _) (bthen Hb.out HN.out.2.2) (Nat.le_refl _)) HrO2.out Hown8.out Hgrow8.out Hat8.out (Ha2.out) Hsm.out hsz
            · exact ((bthen Hb.out HN.out.2.2).alloc hsz _).trans ((Off.grown (Y := fun b => w.heap.size ≤ b) Hgrow8.out (fun r hr => (HrowO.out.lt r hr).1)).toBelow (by simp; omega) (fun b hb => hb))
          case measure => simp [intOf]; omega
    · obtain rfl : k = f.length := by omega
      have hfin := hO.out
      rw [List.take_length] at hfin
      have Hfin := Lib.hid hfin; have Hb := Lib.hid hb
      clear hfin hb hlt
      go_wp2_with fail
      go_ret
      exact ⟨_, rfl, Hfin.out, Hb.out⟩
end Go.Proofs.YthdenkkllpkplaaGreat.Its7
end
section
/- treillagelaw07.ops. -/
namespace Go.Proofs.YthdenkkllpkplaaGreat.Ops7
open Go Go.RowKit Go.Proofs.YthdenkkllpkplaaGreat.Seq Go.Proofs.YthdenkkllpkplaaGreat.WS Go.Proofs.YthdenkkllpkplaaGreat.FS Go.Proofs.YthdenkkllpkplaaGreat.Mem Go.Proofs.YthdenkkllpkplaaGreat.Rd Go.Proofs.YthdenkkllpkplaaGreat.Shapes Go.Proofs.YthdenkkllpkplaaGreat.Word Go.Proofs.YthdenkkllpkplaaGreat.FFam Go.Proofs.YthdenkkllpkplaaGreat.Grown Go.Proofs.YthdenkkllpkplaaGreat.OwnF
set_option linter.unusedVariables false
set_option linter.unusedSimpArgs false
abbrev opC (o : Opn) : List Value := [.int .i64 o.kind, .int .i64 o.id, .int .i64 o.to, .int .i64 o.at_, .string o.name, .string o.text]
def opsK (l : List Opn) : List Value := l.flatMap opC
theorem opsK_snoc (l : List Opn) (o : Opn) : opsK (l ++ [o]) = opsK l ++ opC o := by unfold opsK; rw [List.flatMap_append]; simp
theorem opsK_length : ∀ l : List Opn, (opsK l).length = l.length * 6
  | [] => rfl
  | o :: l => by have := opsK_length l; unfold opsK at this ⊢; rw [List.flatMap_cons, List.length_append, this]; simp; omega
theorem opsK_at : ∀ {l : List Opn} {i : Nat} (h : i < l.length), ((opsK l).drop (i * 6)).take 6 = opC l[i]
  | o :: l, 0, h => rfl
  | o :: l, i + 1, h => by
    have := opsK_at (l := l) (i := i) (by simpa using h)
    unfold opsK at this ⊢
    rw [List.flatMap_cons, show (i + 1) * 6 = i * 6 + 1 + 1 + 1 + 1 + 1 + 1 by omega]
    exact this
theorem rd_ok {B : Nat} {w : World} {v : Value} {l : List Opn} (h : RdO B w v l) : ∀ o ∈ l, OkO o := by
  intro o ho
  obtain ⟨i, hi, rfl⟩ := List.mem_iff_getElem.1 ho
  obtain ⟨A, c, rfl, _, _, h'⟩ := h.form
  obtain ⟨b, o, cs, _, _, _, _, _, hk⟩ := h'.at_ hi
  exact hk
theorem info_rop : (Tryz.prog.info? 40).map (fun i => (i.zero, i.size, i.bytes)) = some (some (.agg #[.int .i64 0, .int .i64 0, .int .i64 0, .int .i64 0, .string ⟨#[]⟩, .string ⟨#[]⟩]), 6, 64) := by kernel_rfl
theorem made_rops (w : World) : (w.alloc (.cells #[] 40)).ownsRow w.heap.size 40 6 (.slice (some ⟨w.heap.size, 0, none⟩) 0 0) 0 [] := World.ownsRow_made w #[] 0 (Nat.le_refl _) (by simp [maxLen]) (by simp)
set_option maxRecDepth 100000 in
set_option maxHeartbeats 4000000 in
theorem ops_calls (w : World) (v : Value) (l : List Opn) (h : RdO w.heap.size w v l) (hl : l.length ≤ 1000) :
    Calls Tryz.prog 31 #[v] w fun e w' => ∃ u, e = .returned u ∧ RdO w'.heap.size w' u l ∧ Below w.heap.size w w' := by
  have hok := rd_ok h
  have hrd := fun w' (hb : Below w.heap.size w w') => h.below opE_keeps (w' := w') hb (Nat.le_refl _)
  obtain ⟨A0, c0, rfl, hl0, hc0, _⟩ := h.form
  simp only [maxLen] at hc0
  obtain ⟨i0, hi0, hz0, hz1, hz2⟩ := info_parts info_rop
  have Hrd := Lib.hid hrd; have Hok := Lib.hid hok
  clear h hrd hok
  go_enter Tryz.func31, Tryz.ntmps31
  go_wp2_with fail
  go_loopw [3, 4] (fun u i wr => ∃ k : Nat, k ≤ l.length ∧ i = .int .i64 k ∧ Hid (wr.ownsRow w.heap.size 40 6 u k (opsK (l.take k))) ∧ Hid (Below w.heap.size w wr)) (fun _ i _ => l.length - (intOf i).toNat)
  case atStart => exact ⟨0, Nat.zero_le _, rfl, Lib.hid (made_rops w), Lib.hid ((Below.refl _ _).alloc (Nat.le_refl _) _)⟩
  case round =>
    obtain ⟨k, hk, rfl, hrow, hb⟩ := hrel
    obtain ⟨AO, cO, rfl⟩ := LShown.slice_of hrow.out
    by_cases hlt : k < l.length
    · obtain ⟨b, o1, rfl, hbl, g0, g1, g2, g3, g4, g5, m1, m2, m3, m4⟩ := op_at (Hrd.out _ hb.out) hlt
      have hts : opsK (l.take (k + 1)) = opsK (l.take k) ++ opC l[k] := by rw [List.take_succ_eq_append_getElem hlt, opsK_snoc]
      have Hts := Lib.hid hts
      clear hts m1 m2 m3 m4
      generalize l[k] = x at *
      obtain ⟨kd, id, tt, aa, nm, tx⟩ := x
      simp only at *
      go_wp2_with (at_builtin; go_loud (refine wpList_append_own_at (wr.alloc (.cells #[.int .i64 kd, .int .i64 id, .int .i64 tt, .int .i64 aa, .string nm, .string tx] 40)) rfl _ _ 49 rfl w.heap.size 40 i0 _ 6 64 Tryz.underlying49 hi0 hz0 hz1 hz2 rfl (by decide) (.slice AO k cO) k (opsK (l.take k)) rfl (own_keep hrow.out (fun g hg => Below.heap_alloc _ _ _ (hrow.out.lt g hg).2)) ⟨wr.heap.size, 0, none⟩ 1 1 [.int .i64 kd, .int .i64 id, .int .i64 tt, .int .i64 aa, .string nm, .string tx] rfl rfl (World.news_of_block (cs := #[.int .i64 kd, .int .i64 id, .int .i64 tt, .int .i64 aa, .string nm, .string tx]) (t := 40) (fr := (0, 0)) (heap_alloc_new wr _)) (by simp [Value.oneCell']) (by simp only [maxLen]; omega) (by omega) (by simp; have := hb.out.size; omega) ?_; intro v8 w8 hown8 hgrow8 hnil8 hat8; have Hown8 := Lib.hid hown8; have Hgrow8 := Lib.hid hgrow8; clear hown8 hgrow8 hnil8 hat8))
      go_roundw
      case rel =>
        refine ⟨k + 1, by omega, by go_num, Lib.hid (by rw [Hts.out]; exact Hown8.out), Lib.hid ((hb.out.alloc hb.out.size _).trans ((Off.grown (Y := fun b => w.heap.size ≤ b) Hgrow8.out (fun r hr => (hrow.out.lt r hr).1)).toBelow (by have := hb.out.size; simp; omega) (fun b hb => hb)))⟩
      case measure => simp [intOf]; omega
    · obtain rfl : k = l.length := by omega
      have hrow' := hrow.out
      rw [List.take_length] at hrow'
      have Hrow := Lib.hid hrow'
      clear hrow' hlt hrow
      go_wp2_with fail
      go_ret
      exact ⟨_, rfl, RdL.of_own Hrow.out rfl (fun g hg => (Hrow.out.lt g hg).2) (fun i hi => ⟨opsK_at hi, Hok.out _ (List.getElem_mem _)⟩), hb.out⟩
end Go.Proofs.YthdenkkllpkplaaGreat.Ops7
end
