import Derived.Test.YtmbhkkophkccbaaGreatC27
import Derived.Test.YtmbhkkophkccbaaGreatC26
import Derived.Test.YtmbhkkophkccbaaGreatC22
section
namespace Go.Proofs.YtmbhkkophkccbaaGreat.R10
open Go Go.RowKit Go.Proofs.YtmbhkkophkccbaaGreat.Seq WS FS Mem Rd Shapes Word FFam Fn Fi
set_option linter.unusedVariables false
set_option linter.unusedSimpArgs false
theorem nowAt_full (f : Fo) (r : Sro) : nowAt f r r.length = rEnds f true (List.replicate f.length false) r := by unfold nowAt; rw [List.take_length]
set_option maxRecDepth 100000 in
set_option maxHeartbeats 4000000 in
theorem Is_calls (w : World) (v : Value) (f : Fo) (h : RdF w.heap.size w v f) (hm : mayB f = true) (hsm : ∀ n ∈ f, Sm n) (i : Int) (vl : Value) (l : Sel) (hl : RdSel w.heap.size w vl l) (hls : SmS l) :
  Calls Tryz.prog 24 #[v, .int .i64 i, vl] w fun e w' => e = .returned (.bool (isS f i l)) ∧ Below w.heap.size w w' := by
 have hI := ref_is hm i l
 have hen := fun w' (hb : Below w.heap.size w w') vr (r : Sro) hr hrs => ends_calls w' v f ((h.below nodeE_keeps (w' := w') hb (Nat.le_refl _)).mono nodeE_keeps hb.size) hm hsm vr r hr hrs
 have hrl := fun w' (hb : Below w.heap.size w w') => hl.below rowE_keeps (w' := w') hb (Nat.le_refl _)
 obtain ⟨A0, c0, rfl, hl0, hcc, _⟩ := h.form
 obtain ⟨Al, cl, rfl, hll, hlc, _⟩ := hl.form
 simp only [maxLen] at hcc hlc
 have hlen := may_len hm
 have HI := Lib.hid hI; have Hen := Lib.hid hen; have Hrl := Lib.hid hrl; have Hls := Lib.hid hls
 clear hI hen hrl hls h hl hm hsm
 cases hn : isNode f i with
 | false =>
  have hE : isS f i l = false := by rw [HI.out, hn]; rfl
  have hno := Wk.node_no hn
  have HE := Lib.hid hE
  clear hE hn
  go_enter Tryz.func24, Tryz.ntmps24
  go_wp2_with fail
  go_loop [7] (fun u => u = .int .i64 0) (fun _ => 0)
  case atStart => rfl
  case round =>
   obtain rfl := hrel
   by_cases h0 : l.length = 0
   ·have h1 : ¬ (0 : Int) < (l.length : Int) := by omega
    clear hno
    go_wp2_with fail
    go_ret
    exact ⟨by rw [HE.out]; rfl, Below.refl _ _⟩
   ·have h1 : (0 : Int) < (l.length : Int) := by omega
    rcases hno with h2 | h2
    ·go_wp2_with fail
     go_ret
     exact ⟨by rw [HE.out]; rfl, Below.refl _ _⟩
    ·obtain ⟨h4, h6⟩ := h2
     have h5 : ¬ i < (f.length : Int) := by omega
     go_wp2_with fail
     go_ret
     exact ⟨by rw [HE.out]; rfl, Below.refl _ _⟩
 | true =>
  obtain ⟨z, rfl, hz⟩ := node_nat hn
  have hI2 : isS f (z : Int) l = l.any (fun r => (nowAt f r r.length).getD z false) := by
   rw [HI.out, hn, Bool.true_and, Int.toNat_natCast]
   simp only [nowAt_full]
  have HI2 := Lib.hid hI2
  have hz0 : (0 : Int) ≤ (z : Int) := by omega
  have hz1 : (z : Int) < (f.length : Int) := by omega
  clear hI2 hn HI
  go_enter Tryz.func24, Tryz.ntmps24
  go_wp2_with fail
  go_loopw [7] (fun u wr => ∃ k : Nat, k ≤ l.length ∧ u = .int .i64 k ∧ Hid ((l.take k).any (fun r => (nowAt f r r.length).getD z false) = false) ∧ Hid (Below w.heap.size w wr)) (fun u _ => l.length - (intOf u).toNat)
  case atStart => exact ⟨0, Nat.zero_le _, rfl, Lib.hid rfl, Lib.hid (Below.refl _ _)⟩
  case round =>
   obtain ⟨k, hk, rfl, hany, hb⟩ := hrel
   by_cases hlt : k < l.length
   ·obtain ⟨br, or_, Ar, cr, rfl, _, r0, hrow, _, _⟩ := row_at (Hrl.out wr hb.out) hlt
    have hsr := Hls.out l[k] (List.getElem_mem hlt)
    have htk : l.take (k + 1) = l.take k ++ [l[k]] := List.take_succ_eq_append_getElem hlt
    have hen := Hen.out wr hb.out _ l[k] (hrow.mono stepE_keeps hb.out.size) hsr
    have hyes : (nowAt f l[k] l[k].length).getD z false = true → isS f (z : Int) l = true := fun hx => by
     rw [HI2.out, List.any_eq_true]
     exact ⟨l[k], List.getElem_mem hlt, hx⟩
    have hno : (nowAt f l[k] l[k].length).getD z false = false → (l.take (k + 1)).any (fun r => (nowAt f r r.length).getD z false) = false := fun hx => by
     rw [htk, List.any_append, hany.out]
     simp only [List.any_cons, List.any_nil, hx, Bool.or_false]
    have Hyes := Lib.hid hyes; have Hno := Lib.hid hno; have Hen2 := Lib.hid hen; have Hb := Lib.hid hb.out
    have hNl := nowAt_length f l[k] l[k].length
    clear hyes hno hen htk hsr hrow hany hb
    generalize l[k] = r at *
    obtain ⟨NOW, hNOW⟩ : ∃ N, N = nowAt f r r.length := ⟨_, rfl⟩
    rw [← hNOW] at Hen2 Hyes Hno hNl
    have hzN : z < NOW.length := by omega
    rw [getB hzN] at Hyes Hno
    obtain ⟨Y, hY⟩ : ∃ Y, Y = NOW[z] := ⟨_, rfl⟩
    rw [← hY] at Hyes Hno
    have HY := Lib.hid hY; have HNl := Lib.hid hNl
    clear hY hNOW hNl
    cases Y
    all_goals
     go_wp2_with (go_at_call 54; (with_reducible refine (Hen2.out).mono ?_); rintro e w8 ⟨g8, c8, rfl, ho8, hb8⟩; have y8 := bool_cell ho8 hzN; rw [← HY.out] at y8; have Hb8 := Lib.hid hb8; clear ho8 hb8)
    ·go_roundw
     case rel => exact ⟨k + 1, by omega, by go_num, Lib.hid (Hno.out (by first | rfl | trivial)), Lib.hid (bthen Hb.out Hb8.out)⟩
     case measure => simp [intOf]; omega
    ·go_ret
     exact ⟨by rw [Hyes.out (by first | rfl | trivial)]; rfl, bthen Hb.out Hb8.out⟩
   ·obtain rfl : k = l.length := by omega
    have hE : isS f (z : Int) l = false := by
     have := hany.out
     rw [List.take_length] at this
     rw [HI2.out, this]
    have HE := Lib.hid hE
    clear hE hany
    go_wp2_with fail
    go_ret
    exact ⟨by rw [HE.out]; rfl, hb.out⟩
set_option maxRecDepth 100000 in
set_option maxHeartbeats 4000000 in
theorem All_calls (w : World) (v : Value) (f : Fo) (h : RdF w.heap.size w v f) (hm : mayB f = true) (hsm : ∀ n ∈ f, Sm n) (top : Int) (hwi : (Lit.int .i64 top).wf = true) (vl : Value) (l : Sel) (hl : RdSel w.heap.size w vl l) (hls : SmS l) :
  Calls Tryz.prog 22 #[v, .int .i64 top, vl] w fun e w' => ∃ u, e = .returned u ∧ RdL (intE .i64) 1 w'.heap.size w' u (allS f top l) ∧ Below w.heap.size w w' := by
 have hor := R8.Order_calls w v f h hm top
 unfold Wk.OrderPost at hor
 have hol := orderL_len hm top
 have his := fun w' (hb : Below w.heap.size w w') (i : Int) => Is_calls w' v f ((h.below nodeE_keeps (w' := w') hb (Nat.le_refl _)).mono nodeE_keeps hb.size) hm hsm i vl l ((hl.below rowE_keeps (w' := w') hb (Nat.le_refl _)).mono rowE_keeps hb.size) hls
 obtain ⟨A0, c0, rfl, _, _, _⟩ := h.form
 obtain ⟨Al, cl, rfl, _, _, _⟩ := hl.form
 unfold allS
 obtain ⟨p, hp⟩ : ∃ p : Int → Bool, p = fun i => isS f i l := ⟨_, rfl⟩
 have hpi : ∀ i, isS f i l = p i := fun i => by rw [hp]
 simp only [hpi] at his
 rw [← hp]
 generalize Wk.nodeErr f top = er at *
 generalize Wk.orderL f top = O at *
 have Hor := Lib.hid hor; have His := Lib.hid his
 clear hor his h hm hsm hl hls hp hpi
 go_enter Tryz.func22, Tryz.ntmps22
 go_upto_region 2 with (go_at_call 49; (with_reducible refine (Hor.out).mono ?_); rintro e w5 ⟨v5, rfl, hr5, hb5⟩; have Hr5 := Lib.hid hr5; have Hb5 := Lib.hid hb5; clear hr5 hb5)
 obtain ⟨A5, c5, rfl, l5, m5, _⟩ := Hr5.out.form
 simp only [maxLen] at m5
 go_wp2_with fail
 go_loopw [9, 10] (fun u i wr => ∃ k : Nat, k ≤ O.length ∧ i = .int .i64 k ∧ Hid (wr.ownsRow w5.heap.size 3 1 u ((O.take k).filter p).length (((O.take k).filter p).map (Value.int .i64))) ∧ Hid (Below w5.heap.size w5 wr)) (fun _ i _ => O.length - (intOf i).toNat)
 case atStart => exact ⟨0, Nat.zero_le _, rfl, Lib.hid (World.ownsRow_lit w5 #[] 0 (Nat.le_refl _) (by decide) rfl), Lib.hid ((Below.refl _ _).alloc (Nat.le_refl _) _)⟩
 case round =>
  obtain ⟨k, hk, rfl, hrow, hb⟩ := hrel
  obtain ⟨Ar, cr, rfl⟩ := LShown.slice_of hrow.out
  by_cases hlt : k < O.length
  ·obtain ⟨b, o, rfl, _, g0, gw⟩ := intE_at (Hr5.out.below (intE_keeps _) (w' := wr) hb.out (Nat.le_refl _)) hlt
   have hts := filt_succ (p := p) hlt
   have htl := filt_le O p k
   have hc := His.out wr (bthen Hb5.out hb.out) O[k]
   have hr5 := Hr5
   generalize O[k] = x at *
   cases hx : p x with
   | false =>
    rw [hx] at hc
    rw [hx, if_neg (by decide), List.append_nil] at hts
    have Hts := Lib.hid hts; have Hc := Lib.hid hc
    clear hts hc hx gw
    go_wp2_with (go_at_call 24; (with_reducible refine (Hc.out).mono ?_); rintro e w6 ⟨rfl, hb6⟩; have Hb6 := Lib.hid hb6; clear hb6)
    go_roundw
    case rel => exact ⟨k + 1, by omega, by go_num, Lib.hid (by rw [Hts.out]; exact own_keep hrow.out (fun g hg => Hb6.out.block g (hrow.out.lt g hg).2)), Lib.hid (bthen hb.out Hb6.out)⟩
    case measure => simp [intOf]; omega
   | true =>
    rw [hx] at hc
    rw [hx, if_pos rfl] at hts
    have Hts := Lib.hid hts; have Hc := Lib.hid hc
    clear hts hc hx gw
    go_wp2_with (first | (go_at_call 24; (with_reducible refine (Hc.out).mono ?_); rintro e w6 ⟨rfl, hb6⟩; have p6 := cell_grow hb6 g0; have Hb6 := Lib.hid hb6; have hrow6 : w6.ownsRow w5.heap.size 3 1 (.slice Ar ((O.take k).filter p).length cr) (((O.take k).filter p).map (Value.int .i64)).length (((O.take k).filter p).map (Value.int .i64)) := (by rw [List.length_map]; exact own_keep hrow.out (fun g hg => hb6.block g (hrow.out.lt g hg).2)); have Hrow6 := Lib.hid hrow6; have HB6 := Lib.hid (bthen hb.out hb6); clear hb6 hrow6) | (at_builtin; go_loud (refine Mem.pl_append _ w5.heap.size rfl _ _ 34 3 (.int .i64 0) 8 rfl Tryz.underlying34 info_int rfl (.slice Ar ((O.take k).filter p).length cr) (((O.take k).filter p).map (Value.int .i64)) (.int .i64 x) rfl (by simp [Act.eval]) rfl Hrow6.out HB6.out.size (by rw [List.length_map]; omega) (by rw [List.length_map]; simp [maxLen]; omega) ?_); rintro v7 w7 hown7 hgrow7 ⟨g7, cap7, rfl, hat⟩; have Hown7 := Lib.hid hown7; have Hgrow7 := Lib.hid hgrow7; clear hown7 hgrow7 hat))
    go_roundw
    case rel =>
     refine ⟨k + 1, by omega, by go_num, Lib.hid ?_, Lib.hid (FTops.grown_below HB6.out Hgrow7.out Hrow6.out (Nat.le_refl _))⟩
     have h9 := Hown7.out
     rw [show ((O.take k).filter p).map (Value.int .i64) ++ [Value.int .i64 x] = ((O.take (k + 1)).filter p).map (Value.int .i64) by rw [Hts.out, List.map_append]; rfl, List.length_map] at h9
     simpa only [List.length_map] using h9
    case measure => simp [intOf]; omega
  ·obtain rfl : k = O.length := by omega
   have hrow' := hrow.out
   rw [List.take_length] at hrow'
   have hwf : ∀ y ∈ O, (Lit.int .i64 y).wf = true := fun y hy => by
    obtain ⟨j, hj, rfl⟩ := List.mem_iff_getElem.1 hy
    obtain ⟨_, _, _, _, _, h9⟩ := intE_at Hr5.out hj
    exact h9
   have Hrow := Lib.hid hrow'; have Hwf := Lib.hid hwf
   clear hrow' hlt hrow hwf
   try rw [List.take_length]
   go_wp2_with fail
   go_ret
   refine ⟨_, rfl, RdL.of_own Hrow.out rfl (fun g hg => (Hrow.out.lt g hg).2) (fun i hi => ⟨?_, Hwf.out _ (List.mem_filter.1 (List.getElem_mem hi)).1⟩), bthen Hb5.out hb.out⟩
   rw [Nat.mul_one, List.drop_eq_getElem_cons (by simpa using hi)]
   simp
theorem head_find {l : List Int} {p : Int → Bool} : (l.filter p).head? = l.find? p := by
 induction l with
 | nil => rfl
 | cons x l ih =>
  by_cases h : p x = true
  ·rw [List.filter_cons_of_pos h, List.find?_cons_of_pos h]; rfl
  ·rw [List.filter_cons_of_neg h, List.find?_cons_of_neg h]; exact ih
set_option maxRecDepth 100000 in
set_option maxHeartbeats 4000000 in
theorem First_calls (w : World) (v : Value) (f : Fo) (h : RdF w.heap.size w v f) (hm : mayB f = true) (hsm : ∀ n ∈ f, Sm n) (top : Int) (hwi : (Lit.int .i64 top).wf = true) (vl : Value) (l : Sel) (hl : RdSel w.heap.size w vl l) (hls : SmS l) :
  Calls Tryz.prog 19 #[v, .int .i64 top, vl] w fun e w' => e = .returned (.tuple #[.int .i64 (firstS ((Wk.orderL f top).find? (fun i => isS f i l))).1, .bool (firstS ((Wk.orderL f top).find? (fun i => isS f i l))).2]) ∧ Below w.heap.size w w' := by
 have hal := All_calls w v f h hm hsm top hwi vl l hl hls
 have hhf : (allS f top l).head? = (Wk.orderL f top).find? (fun i => isS f i l) := head_find
 rw [← hhf]
 generalize allS f top l = L at *
 obtain ⟨A0, c0, rfl, _, _, _⟩ := h.form
 obtain ⟨Al, cl, rfl, _, _, _⟩ := hl.form
 have Hal := Lib.hid hal
 clear hal hhf h hl hm hsm hls
 cases L with
 | nil =>
  go_enter Tryz.func19, Tryz.ntmps19
  go_wp2_with (go_at_call 22; (with_reducible refine (Hal.out).mono ?_); rintro e w8 ⟨u8, rfl, hr8, hb8⟩; obtain ⟨A8, c8, rfl, _, _, _⟩ := hr8.form; have Hb8 := Lib.hid hb8; clear hr8 hb8)
  go_ret2
  exact ⟨rfl, Hb8.out⟩
 | cons x L =>
  have hq : (((x :: L).length : Int) == 0) = false := by rw [beq_eq_false_iff_ne]; simp; omega
  have hq2 : ((L.length : Int) + 1 == 0) = false := by rw [beq_eq_false_iff_ne]; omega
  go_enter Tryz.func19, Tryz.ntmps19
  go_wp2_with (go_at_call 22; (with_reducible refine (Hal.out).mono ?_); rintro e w8 ⟨u8, rfl, hr8, hb8⟩; obtain ⟨A8, c8, rfl, _, _, hr8'⟩ := hr8.form; obtain ⟨b8, o8, rfl, _, g8, _⟩ := intE_at hr8' (i := 0) (by simp); simp only [List.getElem_cons_zero, Nat.add_zero] at g8; have Hb8 := Lib.hid hb8; clear hr8 hr8' hb8)
  go_ret2
  exact ⟨rfl, Hb8.out⟩
end Go.Proofs.YtmbhkkophkccbaaGreat.R10
end
