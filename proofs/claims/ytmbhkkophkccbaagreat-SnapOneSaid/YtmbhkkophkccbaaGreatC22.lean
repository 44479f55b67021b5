import Derived.Test.YtmbhkkophkccbaaGreatC21
import Derived.Test.YtmbhkkophkccbaaGreatC20
import Derived.Test.YtmbhkkophkccbaaGreatC02
import Derived.Test.YtmbhkkophkccbaaGreatC15
import Derived.Test.YtmbhkkophkccbaaGreatC14
section
namespace Go.Proofs.YtmbhkkophkccbaaGreat.Fn
open Go Go.RowKit Go.Proofs.YtmbhkkophkccbaaGreat.Seq WS FS Mem Rd Shapes Word FFam Work
set_option linter.unusedVariables false
set_option linter.unusedSimpArgs false
def SmS (l : Sel) : Prop := ∀ r ∈ l, ∀ x ∈ r, SmC x.c
noncomputable def depthOf (f : Fo) (i : Int) : Nat := @dite _ (∃ n, Up f n i) (Classical.propDecidable _) (fun h => Classical.choose h) (fun _ => 0)
theorem depthOf_up {f : Fo} {n : Nat} {i : Int} (h : Up f n i) : depthOf f i = n := by
 unfold depthOf
 have hx : ∃ n, Up f n i := ⟨n, h⟩
 rw [dif_pos hx]
 exact (Classical.choose_spec hx).unique h
noncomputable def wayOf (f : Fo) (i : Int) : List Int := (upL f (depthOf f i) i).reverse
noncomputable def isS (f : Fo) (i : Int) (l : Sel) : Bool := isNode f i && l.any (fun r => endsB f (wayOf f i) r)
set_option maxRecDepth 100000 in
theorem is1_calls (w : World) (bf bw : Nat) (v : Value) (f : Fo) (A : Option Addr) (c : Nat) (way : List Int) (hbf : w.cell? ⟨bf, 0, none⟩ = some v) (hbw : w.cell? ⟨bw, 0, none⟩ = some (.slice A way.length c)) (h : RdF w.heap.size w v f) (hm : mayB f = true) (hsm : ∀ n ∈ f, Sm n)
  (hway : RdL (intE .i64) 1 w.heap.size w (.slice A way.length c) way) (hnode : ∀ x ∈ way, isNode f x = true) (hlw : 0 < way.length ∧ way.length ≤ 60) (At : Option Addr) (ct : Nat) (r : Sro) (hr : RdL stepE 2 w.heap.size w (.slice At r.length ct) r) (hrs : ∀ x ∈ r, SmC x.c) :
  Calls Tryz.prog 52 #[.slice At r.length ct, .pointer (some ⟨bf, 0, none⟩), .pointer (some ⟨bw, 0, none⟩)] w fun e w' => e = .returned (.bool (endsB f way r)) ∧ Below w.heap.size w w' := by
 have he := ends_calls w v f h hm hsm A c way hway hnode hlw _ r hr hrs
 obtain ⟨A0, c0, rfl, _, _, _⟩ := h.form
 generalize endsB f way r = y at *
 have He := Lib.hid he
 clear he h hm hsm hway hnode hr hrs
 go_enter Tryz.func52, Tryz.ntmps52
 go_wp2_with (go_at_call 53; (with_reducible refine (He.out).mono ?_); rintro e w5 ⟨rfl, hb5⟩; have Hb5 := Lib.hid hb5; clear hb5)
 go_ret
 exact ⟨rfl, Hb5.out⟩
set_option maxRecDepth 100000 in
set_option maxHeartbeats 4000000 in
theorem Is_calls (w : World) (v : Value) (f : Fo) (h : RdF w.heap.size w v f) (hm : mayB f = true) (hsm : ∀ n ∈ f, Sm n) (i : Int) (vl : Value) (l : Sel) (hl : RdSel w.heap.size w vl l) (hls : SmS l) :
  Calls Tryz.prog 23 #[v, .int .i64 i, vl] w fun e w' => e = .returned (.bool (isS f i l)) ∧ Below w.heap.size w w' := by
 obtain ⟨w0, hw0⟩ : ∃ w0, w.alloc (.cells #[v] 29) = w0 := ⟨_, rfl⟩
 have hb0 : Below w.heap.size w w0 := by rw [← hw0]; exact (Below.refl _ _).alloc (Nat.le_refl _) _
 have q0 : w0.heap[w.heap.size]? = some (.cells #[v] 29 (0, 0)) := by rw [← hw0]; exact World.alloc_heap_new w _
 have hrd := fun w' (hb : Below w.heap.size w w') => (h.below nodeE_keeps (w' := w') hb (Nat.le_refl _)).mono nodeE_keeps hb.size
 have hrl := fun w' (hb : Below w.heap.size w w') => (hl.below rowE_keeps (w' := w') hb (Nat.le_refl _)).mono rowE_keeps hb.size
 have hc0 := (cell_of_row _ _ 0 _ _ _ q0).trans rfl
 obtain ⟨A0, c0, rfl, hl0, hcc, _⟩ := h.form
 obtain ⟨Al, cl, rfl, _, _, _⟩ := hl.form
 simp only [maxLen] at hcc
 cases hn : isNode f i with
 | false =>
  have hI : isS f i l = false := by unfold isS; rw [hn]; rfl
  rw [hI]
  have hno := Wk.node_no hn
  have Hw0 := Lib.hid hw0; have Hb0 := Lib.hid hb0
  have x0 : w0.cell? ⟨w.heap.size, 0, none⟩ = some (.slice A0 f.length c0) := hc0
  clear hw0 hb0 hrd hrl h hl hls hn hI q0 hc0 hm hsm
  by_cases h0 : i < 0
  ·clear hno
   go_enter Tryz.func23, Tryz.ntmps23
   go_upto_region 1 with fail
   rw [Hw0.out]
   go_wp2_with fail
   go_ret
   exact ⟨rfl, Hb0.out⟩
  ·have h1 : (f.length : Int) ≤ i := by omega
   clear hno
   go_enter Tryz.func23, Tryz.ntmps23
   go_upto_region 1 with fail
   rw [Hw0.out]
   go_wp2_with fail
   go_ret
   exact ⟨rfl, Hb0.out⟩
 | true =>
  obtain ⟨k, rfl, hk⟩ := node_nat hn
  obtain ⟨N, hN⟩ := may_climbs hm k hk
  have hI : isS f k l = l.any (fun r => endsB f (upL f N k).reverse r) := by unfold isS wayOf; rw [hn, depthOf_up hN]; rfl
  rw [hI]
  have hN1 : 0 < N := by
   rcases Nat.eq_zero_or_pos N with e | e
   ·subst e; have : (k : Int) < 0 := hN; omega
   ·exact e
  have hN60 := up_len hm hN (by omega)
  have hnode : ∀ x ∈ (upL f N k).reverse, isNode f x = true := fun x hx => upL_node hm N k hN (by omega) x (List.mem_reverse.1 hx)
  have hwl : (upL f N k).reverse.length = N := by rw [List.length_reverse, upL_length]
  have hab := above_calls w0 _ f (hrd w0 hb0) hm k hk N hN
  generalize (upL f N k).reverse = way at *
  have x0 : w0.cell? ⟨w.heap.size, 0, none⟩ = some (.slice A0 f.length c0) := hc0
  have hkI : (k : Int) < (f.length : Int) := by omega
  have hk0 : (0 : Int) ≤ (k : Int) := by omega
  have Hw0 := Lib.hid hw0; have Hb0 := Lib.hid hb0; have Hab := Lib.hid hab; have Hrd := Lib.hid hrd; have Hrl := Lib.hid hrl; have Hq0 := Lib.hid q0; have Hm := Lib.hid hm; have Hsm := Lib.hid hsm; have Hls := Lib.hid hls; have Hnode := Lib.hid hnode; have Hwl := Lib.hid hwl
  clear hw0 hb0 hab hrd hrl h hl hls hn hI q0 hc0 hm hsm hnode hN hwl
  go_enter Tryz.func23, Tryz.ntmps23
  go_upto_region 1 with fail
  rw [Hw0.out]
  go_upto_region 4 with (go_at_call 50; (with_reducible refine (Hab.out).mono ?_); rintro e w5 ⟨A5, c5, rfl, hr5, hb5⟩; have Hr5 := Lib.hid hr5; have Hb5 := Lib.hid hb5; clear hr5 hb5)
  obtain ⟨w6, hw6⟩ : ∃ w6, w5.alloc (.cells #[.slice A5 N c5] 34) = w6 := ⟨_, rfl⟩
  have hb6 : Below w5.heap.size w5 w6 := by rw [← hw6]; exact (Below.refl _ _).alloc (Nat.le_refl _) _
  have q6 : w6.heap[w5.heap.size]? = some (.cells #[.slice A5 N c5] 34 (0, 0)) := by rw [← hw6]; exact World.alloc_heap_new w5 _
  rw [hw6]
  have hcon := ContainsRow_calls w6 _ l (Hrl.out w6 (bthen Hb0.out (bthen Hb5.out hb6))) (fun r => endsB f way r) (.pointer (some ⟨w.heap.size, 0, none⟩)) (.pointer (some ⟨w5.heap.size, 0, none⟩)) (fun w' hb' j hj At ct hr => by
   have hbb := bthen Hb5.out (bthen hb6 hb')
   refine is1_calls w' w.heap.size w5.heap.size _ f A5 c5 way ((cell_of_row _ _ 0 _ _ _ ((hbb.block _ (lt_heap Hq0.out)).trans Hq0.out)).trans rfl) ?_ (Hrd.out w' (bthen Hb0.out hbb)) Hm.out Hsm.out ?_ Hnode.out (by rw [Hwl.out]; exact ⟨hN1, hN60⟩) At ct l[j] hr (fun x hx => Hls.out _ (List.getElem_mem hj) x hx)
   ·rw [Hwl.out]; exact (cell_of_row _ _ 0 _ _ _ ((hb'.block _ (lt_heap q6)).trans q6)).trans rfl
   ·rw [Hwl.out]; exact (Hr5.out.below (intE_keeps _) (w' := w') (bthen hb6 hb') (Nat.le_refl _)).mono (intE_keeps _) (bthen hb6 hb').size)
  obtain ⟨y, hy⟩ : ∃ y, y = l.any (fun r => endsB f way r) := ⟨_, rfl⟩
  rw [← hy] at hcon
  have Hy := Lib.hid hy
  clear hy
  have Hcon := Lib.hid hcon; have Hb6 := Lib.hid hb6
  clear hcon hb6 hw6 q6 x0
  go_wp2_with (go_at_call 51; (with_reducible refine (Hcon.out).mono ?_); rintro e w7 ⟨rfl, hb7⟩; have Hb7 := Lib.hid hb7; clear hb7)
  go_ret
  exact ⟨ret_bool Hy.out, bthen Hb0.out (bthen Hb5.out (bthen Hb6.out Hb7.out))⟩
end Go.Proofs.YtmbhkkophkccbaaGreat.Fn
end
section
namespace Go.Proofs.YtmbhkkophkccbaaGreat.Fn
open Go Go.RowKit Go.Proofs.YtmbhkkophkccbaaGreat.Seq WS FS Mem Rd Shapes Word FFam Work
set_option linter.unusedVariables false
set_option linter.unusedSimpArgs false
noncomputable def allS (f : Fo) (top : Int) (l : Sel) : List Int := (Wk.orderL f top).filter (fun i => isS f i l)
theorem filt_succ {l : List Int} {p : Int → Bool} {k : Nat} (hk : k < l.length) : (l.take (k + 1)).filter p = (l.take k).filter p ++ if p l[k] = true then [l[k]] else [] := by
 rw [List.take_succ_eq_append_getElem hk, List.filter_append]
 by_cases h : p l[k] = true
 ·rw [if_pos h, List.filter_cons_of_pos h]; rfl
 ·rw [if_neg h, List.filter_cons_of_neg h]; rfl
theorem filt_le (l : List Int) (p : Int → Bool) (k : Nat) : ((l.take k).filter p).length ≤ k := Nat.le_trans (List.length_filter_le _ _) (by rw [List.length_take]; omega)
theorem orderL_len {f : Fo} (hm : mayB f = true) (i : Int) : (Wk.orderL f i).length ≤ 60 := by
 unfold Wk.orderL
 split
 ·rename_i h
  have := order_len (may_family hm) (may_climbs hm) h
  have := (may_len hm).2
  omega
 ·simp
set_option maxRecDepth 100000 in
set_option maxHeartbeats 4000000 in
theorem AllNew_calls (w : World) (v : Value) (f : Fo) (h : RdF w.heap.size w v f) (hm : mayB f = true) (hsm : ∀ n ∈ f, Sm n) (top : Int) (hwi : (Lit.int .i64 top).wf = true) (vl : Value) (l : Sel) (hl : RdSel w.heap.size w vl l) (hls : SmS l) :
  Calls Tryz.prog 17 #[v, .int .i64 top, vl] w fun e w' => ∃ u, e = .returned u ∧ RdL (intE .i64) 1 w'.heap.size w' u (allS f top l) ∧ Below w.heap.size w w' ∧ Wk.Fresh w.heap.size u := by
 have hor := Wk.Order_calls w v f h hm top hwi
 unfold Wk.OrderPost at hor
 have hol := orderL_len hm top
 have his := fun w' (hb : Below w.heap.size w w') (i : Int) => Is_calls w' v f ((h.below nodeE_keeps (w' := w') hb (Nat.le_refl _)).mono nodeE_keeps hb.size) hm hsm i vl l ((hl.below rowE_keeps (w' := w') hb (Nat.le_refl _)).mono rowE_keeps hb.size) hls
 obtain ⟨A0, c0, rfl, _, _, _⟩ := h.form
 obtain ⟨Al, cl, rfl, _, _, _⟩ := hl.form
 unfold allS
 obtain ⟨p, hp⟩ : ∃ p : Int → Bool, p = fun i => isS f i l := ⟨_, rfl⟩
 have hpi : ∀ i, isS f i l = p i := fun i => by rw [hp]
 simp only [hpi] at his
 rw [← hp]
 generalize Wk.nodeErr f top = er at *
 generalize Wk.orderL f top = O at *
 have Hor := Lib.hid hor; have His := Lib.hid his
 clear hor his h hm hsm hl hls hp hpi
 go_enter Tryz.func17, Tryz.ntmps17
 go_upto_region 2 with (go_at_call 46; (with_reducible refine (Hor.out).mono ?_); rintro e w5 ⟨v5, rfl, hr5, hb5⟩; have Hr5 := Lib.hid hr5; have Hb5 := Lib.hid hb5; clear hr5 hb5)
 obtain ⟨A5, c5, rfl, l5, m5, _⟩ := Hr5.out.form
 simp only [maxLen] at m5
 go_wp2_with fail
 go_loopw [6, 19] (fun u i wr => ∃ k : Nat, k ≤ O.length ∧ i = .int .i64 k ∧ Hid (wr.ownsRow w5.heap.size 3 1 u ((O.take k).filter p).length (((O.take k).filter p).map (Value.int .i64))) ∧ Hid (Below w5.heap.size w5 wr)) (fun _ i _ => O.length - (intOf i).toNat)
 case atStart => exact ⟨0, Nat.zero_le _, rfl, Lib.hid (World.ownsRow_nil _ _ _ _), Lib.hid (Below.refl _ _)⟩
 case round =>
  obtain ⟨k, hk, rfl, hrow, hb⟩ := hrel
  obtain ⟨Ar, cr, rfl⟩ := LShown.slice_of hrow.out
  by_cases hlt : k < O.length
  ·obtain ⟨b, o, rfl, _, g0, gw⟩ := intE_at (Hr5.out.below (intE_keeps _) (w' := wr) hb.out (Nat.le_refl _)) hlt
   have hts := filt_succ (p := p) hlt
   have htl := filt_le O p k
   have hc := His.out wr (bthen Hb5.out hb.out) O[k]
   have hr5 := Hr5
   generalize O[k] = x at *
   cases hx : p x with
   | false =>
    rw [hx] at hc
    rw [hx, if_neg (by decide), List.append_nil] at hts
    have Hts := Lib.hid hts; have Hc := Lib.hid hc
    clear hts hc hx gw
    go_wp2_with (go_at_call 23; (with_reducible refine (Hc.out).mono ?_); rintro e w6 ⟨rfl, hb6⟩; have Hb6 := Lib.hid hb6; clear hb6)
    go_roundw
    case rel => exact ⟨k + 1, by omega, by go_num, Lib.hid (by rw [Hts.out]; exact own_keep hrow.out (fun g hg => Hb6.out.block g (hrow.out.lt g hg).2)), Lib.hid (bthen hb.out Hb6.out)⟩
    case measure => simp [intOf]; omega
   | true =>
    rw [hx] at hc
    rw [hx, if_pos rfl] at hts
    have Hts := Lib.hid hts; have Hc := Lib.hid hc
    clear hts hc hx gw
    go_wp2_with (first | (go_at_call 23; (with_reducible refine (Hc.out).mono ?_); rintro e w6 ⟨rfl, hb6⟩; have Hb6 := Lib.hid hb6; have hrow6 : w6.ownsRow w5.heap.size 3 1 (.slice Ar ((O.take k).filter p).length cr) (((O.take k).filter p).map (Value.int .i64)).length (((O.take k).filter p).map (Value.int .i64)) := (by rw [List.length_map]; exact own_keep hrow.out (fun g hg => hb6.block g (hrow.out.lt g hg).2)); have Hrow6 := Lib.hid hrow6; have HB6 := Lib.hid (bthen hb.out hb6); clear hb6 hrow6) | (at_builtin; go_loud (refine Mem.pl_append _ w5.heap.size rfl _ _ 34 3 (.int .i64 0) 8 rfl Tryz.underlying34 info_int rfl (.slice Ar ((O.take k).filter p).length cr) (((O.take k).filter p).map (Value.int .i64)) (.int .i64 x) rfl (by simp [Act.eval]) rfl Hrow6.out HB6.out.size (by rw [List.length_map]; omega) (by rw [List.length_map]; simp [maxLen]; omega) ?_); rintro v7 w7 hown7 hgrow7 ⟨g7, cap7, rfl, hat⟩; have Hown7 := Lib.hid hown7; have Hgrow7 := Lib.hid hgrow7; clear hown7 hgrow7 hat))
    go_roundw
    case rel =>
     refine ⟨k + 1, by omega, by go_num, Lib.hid ?_, Lib.hid (FTops.grown_below HB6.out Hgrow7.out Hrow6.out (Nat.le_refl _))⟩
     have h9 := Hown7.out
     rw [show ((O.take k).filter p).map (Value.int .i64) ++ [Value.int .i64 x] = ((O.take (k + 1)).filter p).map (Value.int .i64) by rw [Hts.out, List.map_append]; rfl, List.length_map] at h9
     simpa only [List.length_map] using h9
    case measure => simp [intOf]; omega
  ·obtain rfl : k = O.length := by omega
   have hrow' := hrow.out
   rw [List.take_length] at hrow'
   have hwf : ∀ y ∈ O, (Lit.int .i64 y).wf = true := fun y hy => by
    obtain ⟨j, hj, rfl⟩ := List.mem_iff_getElem.1 hy
    obtain ⟨_, _, _, _, _, h9⟩ := intE_at Hr5.out hj
    exact h9
   have Hrow := Lib.hid hrow'; have Hwf := Lib.hid hwf
   clear hrow' hlt hrow hwf
   try rw [List.take_length]
   go_wp2_with fail
   go_ret
   refine ⟨_, rfl, RdL.of_own Hrow.out rfl (fun g hg => (Hrow.out.lt g hg).2) (fun i hi => ⟨?_, Hwf.out _ (List.mem_filter.1 (List.getElem_mem hi)).1⟩), bthen Hb5.out hb.out, fun b o n c e h0 => Nat.le_trans Hb5.out.size (Wk.fresh_own Hrow.out b o n c e h0)⟩
   rw [Nat.mul_one, List.drop_eq_getElem_cons (by simpa using hi)]
   simp
theorem All_calls (w : World) (v : Value) (f : Fo) (h : RdF w.heap.size w v f) (hm : mayB f = true) (hsm : ∀ n ∈ f, Sm n) (top : Int) (hwi : (Lit.int .i64 top).wf = true) (vl : Value) (l : Sel) (hl : RdSel w.heap.size w vl l) (hls : SmS l) :
  Calls Tryz.prog 17 #[v, .int .i64 top, vl] w fun e w' => ∃ u, e = .returned u ∧ RdL (intE .i64) 1 w'.heap.size w' u (allS f top l) ∧ Below w.heap.size w w' :=
 (AllNew_calls w v f h hm hsm top hwi vl l hl hls).mono fun e w' ⟨u, h1, h2, h3, _⟩ => ⟨u, h1, h2, h3⟩
def firstS (o : Option Int) : Int × Bool := match o with | some x => (x, true) | none => (0, false)
theorem ret_ib {a c : Int} {b d : Bool} (h : a = c) (k : b = d) : Ending.returned (.tuple #[.int .i64 a, .bool b]) = .returned (.tuple #[.int .i64 c, .bool d]) := by rw [h, k]
theorem first1_calls (w : World) (bf bl : Nat) (v vl : Value) (f : Fo) (l : Sel) (hbf : w.cell? ⟨bf, 0, none⟩ = some v) (hbl : w.cell? ⟨bl, 0, none⟩ = some vl) (h : RdF w.heap.size w v f) (hm : mayB f = true) (hsm : ∀ n ∈ f, Sm n) (hl : RdSel w.heap.size w vl l) (hls : SmS l) (i : Int) :
  Calls Tryz.prog 48 #[.int .i64 i, .pointer (some ⟨bf, 0, none⟩), .pointer (some ⟨bl, 0, none⟩)] w fun e w' => e = .returned (.bool (isS f i l)) ∧ Below w.heap.size w w' := by
 have he := Is_calls w v f h hm hsm i vl l hl hls
 obtain ⟨A0, c0, rfl, _, _, _⟩ := h.form
 obtain ⟨Al, cl, rfl, _, _, _⟩ := hl.form
 generalize isS f i l = y at *
 have He := Lib.hid he
 clear he h hm hsm hl hls
 go_enter Tryz.func48, Tryz.ntmps48
 go_wp2_with (go_at_call 23; (with_reducible refine (He.out).mono ?_); rintro e w5 ⟨rfl, hb5⟩; have Hb5 := Lib.hid hb5; clear hb5)
 go_ret
 exact ⟨rfl, Hb5.out⟩
set_option maxRecDepth 100000 in
set_option maxHeartbeats 4000000 in
theorem First_calls (w : World) (v : Value) (f : Fo) (h : RdF w.heap.size w v f) (hm : mayB f = true) (hsm : ∀ n ∈ f, Sm n) (top : Int) (hwi : (Lit.int .i64 top).wf = true) (vl : Value) (l : Sel) (hl : RdSel w.heap.size w vl l) (hls : SmS l) :
  Calls Tryz.prog 18 #[v, .int .i64 top, vl] w fun e w' => e = .returned (.tuple #[.int .i64 (firstS ((Wk.orderL f top).find? (fun i => isS f i l))).1, .bool (firstS ((Wk.orderL f top).find? (fun i => isS f i l))).2]) ∧ Below w.heap.size w w' := by
 obtain ⟨w0, hw0⟩ : ∃ w0, (w.alloc (.cells #[v] 29)).alloc (.cells #[vl] 24) = w0 := ⟨_, rfl⟩
 have hb0 : Below w.heap.size w w0 := by rw [← hw0]; exact ((Below.refl _ _).alloc (Nat.le_refl _) _).alloc (by simp) _
 have q0 : w0.heap[w.heap.size]? = some (.cells #[v] 29 (0, 0)) := by rw [← hw0]; exact heap_old (World.alloc_heap_new w _)
 have q1 : w0.heap[w.heap.size + 1]? = some (.cells #[vl] 24 (0, 0)) := by rw [← hw0]; exact heap_new (by simp)
 have hrd := fun w' (hb : Below w.heap.size w w') => (h.below nodeE_keeps (w' := w') hb (Nat.le_refl _)).mono nodeE_keeps hb.size
 have hrl := fun w' (hb : Below w.heap.size w w') => (hl.below rowE_keeps (w' := w') hb (Nat.le_refl _)).mono rowE_keeps hb.size
 have hor := Wk.Order_calls w0 v f (hrd w0 hb0) hm top hwi
 unfold Wk.OrderPost at hor
 have hol := orderL_len hm top
 have hcl := fun w' (hb : Below w0.heap.size w0 w') (i : Int) => first1_calls w' w.heap.size (w.heap.size + 1) v vl f l ((cell_of_row _ _ 0 _ _ _ ((hb.block _ (lt_heap q0)).trans q0)).trans rfl) ((cell_of_row _ _ 0 _ _ _ ((hb.block _ (lt_heap q1)).trans q1)).trans rfl) (hrd w' (bthen hb0 hb)) hm hsm (hrl w' (bthen hb0 hb)) hls i
 have x0 : w0.cell? ⟨w.heap.size, 0, none⟩ = some v := (cell_of_row _ _ 0 _ _ _ q0).trans rfl
 obtain ⟨A0, c0, rfl, _, _, _⟩ := h.form
 obtain ⟨Al, cl, rfl, _, _, _⟩ := hl.form
 obtain ⟨p, hp⟩ : ∃ p : Int → Bool, p = fun i => isS f i l := ⟨_, rfl⟩
 have hpi : ∀ i, isS f i l = p i := fun i => by rw [hp]
 simp only [hpi] at hcl
 rw [← hp]
 generalize Wk.nodeErr f top = er at *
 generalize Wk.orderL f top = O at *
 have Hor := Lib.hid hor; have Hcl := Lib.hid hcl; have Hw0 := Lib.hid hw0; have Hb0 := Lib.hid hb0
 clear hor hcl hw0 hb0 hrd hrl h hl hm hsm hls q0 q1 hp hpi
 go_enter Tryz.func18, Tryz.ntmps18
 go_upto_region 1 with fail
 rw [Hw0.out]
 go_upto_region 2 with (go_at_call 46; (with_reducible refine (Hor.out).mono ?_); rintro e w5 ⟨v5, rfl, hr5, hb5⟩; have Hr5 := Lib.hid hr5; have Hb5 := Lib.hid hb5; clear hr5 hb5)
 obtain ⟨A5, c5, rfl, l5, m5, _⟩ := Hr5.out.form
 simp only [maxLen] at m5
 have hix := IndexInt_calls w5 _ O Hr5.out p (.pointer (some ⟨w.heap.size, 0, none⟩)) (.pointer (some ⟨w.heap.size + 1, 0, none⟩)) (fun w' hb i hi _ => Hcl.out w' (bthen Hb5.out hb) O[i])
 cases hfi : O.findIdx? p with
 | none =>
  have hix0 : idxP O p = -1 := by unfold idxP; rw [hfi]
  have hfo : O.find? p = none := by
   rw [List.findIdx?_eq_none_iff] at hfi
   rw [List.find?_eq_none]
   intro x hx
   simpa using hfi x hx
  rw [hix0] at hix
  have Hix := Lib.hid hix; have Hfo := Lib.hid hfo
  clear hix hfi hix0 hfo
  go_wp2_with (go_at_call 47; (with_reducible refine (Hix.out).mono ?_); rintro e w6 ⟨rfl, hb6⟩; have Hb6 := Lib.hid hb6; clear hb6)
  go_ret2
  exact ⟨ret_ib (by rw [Hfo.out]; rfl) (by rw [Hfo.out]; rfl), bthen Hb0.out (bthen Hb5.out Hb6.out)⟩
 | some j =>
  have hix0 : idxP O p = (j : Int) := by unfold idxP; rw [hfi]
  obtain ⟨hj, hjp, hjn⟩ := List.findIdx?_eq_some_iff_getElem.1 hfi
  have hfo : O.find? p = some O[j] := by
   rw [List.find?_eq_some_iff_getElem]
   exact ⟨hjp, j, hj, rfl, fun k hk => by simpa using hjn k hk⟩
  rw [hix0] at hix
  have hat := fun w' (hb : Below w5.heap.size w5 w') => intE_at (Hr5.out.below (intE_keeps _) (w' := w') hb (Nat.le_refl _)) hj
  obtain ⟨b2, o2, rfl, _, _, _⟩ := hat w5 (Below.refl _ _)
  have hat2 : ∀ w', Below w5.heap.size w5 w' → w'.cell? ⟨b2, o2 + j, none⟩ = some (.int .i64 O[j]) := fun w' hb => by
   obtain ⟨b3, o3, e3, _, q, _⟩ := hat w' hb
   injection e3 with e3
   injection e3 with e3 e4 _
   rw [e3, e4]
   exact q
  have hj0 : decide ((j : Int) < 0) = false := by simp
  have hjl : (j : Int) < (O.length : Int) := by omega
  have Hix := Lib.hid hix; have Hfo := Lib.hid hfo; have Hat := Lib.hid hat2
  clear hix hfi hix0 hfo hat hat2 hjp hjn
  generalize O[j] = x at *
  go_wp2_with (go_at_call 47; (with_reducible refine (Hix.out).mono ?_); rintro e w6 ⟨rfl, hb6⟩; have p6 := Hat.out _ hb6; have Hb6 := Lib.hid hb6; clear hb6)
  go_ret2
  exact ⟨ret_ib (by rw [Hfo.out]; rfl) (by rw [Hfo.out]; rfl), bthen Hb0.out (bthen Hb5.out Hb6.out)⟩
end Go.Proofs.YtmbhkkophkccbaaGreat.Fn
end
section
namespace Go.Proofs.YtmbhkkophkccbaaGreat.Pa
open Go Go.RowKit Go.Proofs.YtmbhkkophkccbaaGreat.Seq WS FS Mem Rd Shapes Word FFam Work Fn OwnF
set_option linter.unusedVariables false
set_option linter.unusedSimpArgs false
theorem rdL_of {α : Type} {E : ElS α} {E' : Elem α} {sz : Nat} {S : Nat → Prop} {w : World} {v : Value} {l : List α} (h : RdE E sz S w v l) (he : ∀ cs x, E S w cs x → E' w.heap.size w cs x) : RdL E' sz w.heap.size w v l := by
 obtain ⟨A, c, hv, h1, h2, h3⟩ := h
 refine ⟨A, c, hv, h1, h2, fun h0 => ?_⟩
 obtain ⟨b, o, e, _, hlt, hc⟩ := h3 h0
 exact ⟨b, o, e, hlt, fun i hi => by
  obtain ⟨cs, h4, h5, h6⟩ := hc i hi
  exact ⟨cs, h4, h5, he _ _ h6⟩⟩
theorem test_of {S : Nat → Prop} {w : World} {cs : List Value} {t : Tst} (h : testS S w cs t) : testE w.heap.size w cs t :=
 ⟨h.1, Nat.le_trans h.2.1 (by decide), Nat.le_trans h.2.2.1 (by decide), h.2.2.2⟩
theorem step_of {S : Nat → Prop} {w : World} {cs : List Value} {x : Stp} (h : stepS S w cs x) : stepE w.heap.size w cs x := by
 obtain ⟨v, h1, h2⟩ := h
 exact ⟨v, h1, rdL_of h2 (fun _ _ => test_of)⟩
theorem row_of {S : Nat → Prop} {w : World} {cs : List Value} {x : Sro} (h : rowS S w cs x) : rowE w.heap.size w cs x := by
 obtain ⟨v, h1, h2⟩ := h
 exact ⟨v, h1, rdL_of h2 (fun _ _ => step_of)⟩
theorem sel_of {S : Nat → Prop} {w : World} {v : Value} {l : Sel} (h : RdE rowS 1 S w v l) : RdSel w.heap.size w v l := rdL_of h (fun _ _ => row_of)
theorem row_sm_loop {s : ByteArray} : ∀ (n : Nat) (l : Sro) (c : Bool) (b : Nat) {x : Sro × Nat}, rowLoop s n l c b = .ok x → b ≤ s.size → (∀ y ∈ l, SmT y.c) → ∀ y ∈ x.1, SmT y.c
 | 0, l, c, b, x, h, _, _ => by rw [rowLoop] at h; cases h
 | n + 1, l, c, b, x, h, hb, hl => by
  rw [rowLoop] at h
  cases hN : compoundP s b with
  | error e => rw [hN] at h; cases h
  | ok y =>
   rw [hN] at h
   have ho := compound_ok hN hb
   have he := end_le (s := s) (p := blkB) (a := y.2) ho.2.1
   have happ : ∀ z ∈ l ++ [{ c := y.1, child := c }], SmT z.c := fun z hz => by
    rw [List.mem_append, List.mem_singleton] at hz
    rcases hz with hz | rfl
    ·exact hl z hz
    ·exact ho.2.2
   simp only at h
   split at h
   ·injection h with h
    subst h
    exact happ
   ·split at h
    ·rename_i ht
     have hlt := (took_lt ht).1
     have he3 := end_le (s := s) (p := blkB) (a := endOf s blkB y.2 + 1) (by omega)
     exact row_sm_loop n _ _ _ h he3.2 happ
    ·split at h
     ·exact row_sm_loop n _ _ _ h he.2 happ
     ·cases h
theorem row_sm {s : ByteArray} {a : Nat} {x : Sro × Nat} (h : rowP s a = .ok x) (ha : a ≤ s.size) : ∀ y ∈ x.1, SmT y.c := by
 unfold rowP at h
 have he := end_le (s := s) (p := blkB) (a := a) ha
 exact row_sm_loop _ _ _ _ h he.2 (fun y hy => by cases hy)
theorem parse_sm_loop {s : ByteArray} : ∀ (n : Nat) (l : Sel) (a : Nat) {x : Sel}, parseLoop s n l a = .ok x → a ≤ s.size → (∀ r ∈ l, ∀ y ∈ r, SmT y.c) → ∀ r ∈ x, ∀ y ∈ r, SmT y.c
 | 0, l, a, x, h, _, _ => by rw [parseLoop] at h; cases h
 | n + 1, l, a, x, h, ha, hl => by
  rw [parseLoop] at h
  cases hN : rowP s a with
  | error e => rw [hN] at h; cases h
  | ok y =>
   rw [hN] at h
   have ho := row_ok hN ha
   have happ : ∀ r ∈ l ++ [y.1], ∀ z ∈ r, SmT z.c := fun r hr => by
    rw [List.mem_append, List.mem_singleton] at hr
    rcases hr with hr | rfl
    ·exact hl r hr
    ·exact row_sm hN ha
   simp only at h
   split at h
   ·rename_i ht
    have hlt := (took_lt ht).1
    exact parse_sm_loop n _ _ h (by omega) happ
   ·injection h with h
    subst h
    exact happ
theorem parse_sm {s : ByteArray} {l : Sel} (h : parseP s = .ok l) : (∀ r ∈ l, ∀ y ∈ r, SmT y.c) ∧ SmS l := by
 have hs := parse_sm_loop _ _ _ h (Nat.zero_le _) (fun r hr => by cases hr)
 exact ⟨hs, fun r hr y hy t ht => Nat.le_trans (hs r hr y hy t ht).1 (by decide)⟩
def demoT : ByteArray := ⟨#[97, 32, 46, 121, 44, 32, 97, 32, 62, 32, 99]⟩
def demoL : Sel := [[{ c := [{ kind := 1, name := ⟨#[97]⟩ }], child := false }, { c := [{ kind := 3, name := ⟨#[121]⟩ }], child := false }], [{ c := [{ kind := 1, name := ⟨#[97]⟩ }], child := false }, { c := [{ kind := 1, name := ⟨#[99]⟩ }], child := true }]]
theorem demo_parse : parseP demoT = .ok demoL := by kernel_rfl
end Go.Proofs.YtmbhkkophkccbaaGreat.Pa
end
section
namespace Go.Proofs.YtmbhkkophkccbaaGreat.Wk
open Go Go.RowKit Go.Shelf Go.Proofs.YtmbhkkophkccbaaGreat.Seq SeqR WS FS Mem Rd Shapes Word FFam Thr
set_option linter.unusedVariables false
set_option linter.unusedSimpArgs false
attribute [local go_sem] Oper.semAt_some Thr.wide_fn Thr.wide_depth Thr.wide_round

def byIdV (f : Fo) (o : Option Int) : Int × Int := match o with | some k => (k, 0) | none => (0, 3)
noncomputable def ByIdPost (f : Fo) (text : ByteArray) (w : World) (e : Ending) (w' : World) : Prop := e = .returned (.tuple #[.int .i64 (byIdV f (byId f text)).1, .int .i64 (byIdV f (byId f text)).2]) ∧ Below w.heap.size w w'
def idI (S : Nat) (fv : Value) (f : Fo) (text : ByteArray) (m : Nat) (X : Nat → Prop) (W : World) : Prop :=
 RdF (S + 2) W fv f ∧ W.heap[S]? = some (.cells #[fv] 29 (0, 0)) ∧ W.heap[S + 1]? = some (.cells #[.string text] 9 (0, 0)) ∧ W.heap[S + 2]? = some (.cells #[.int .i64 0] 3 (0, 0)) ∧ W.heap[S + 3]? = some (.cells #[.int .i64 0] 64 (0, 0)) ∧
  (∀ b, X b ↔ (b = S + 2 ∨ b = S + 3)) ∧ ∀ k ∈ (order f 0).take m, hitB f text k = false
def idX (S : Nat) (f : Fo) (text : ByteArray) (c : Code) (m : Nat) (X : Nat → Prop) (W : World) : Prop :=
 c = .ret ∧ ∃ x, W.heap[S + 2]? = some (.cells #[.int .i64 x] 3 (0, 0)) ∧ W.heap[S + 3]? = some (.cells #[.int .i64 0] 64 (0, 0)) ∧ (∀ b, X b ↔ (b = S + 2 ∨ b = S + 3)) ∧ byId f text = some x
theorem idI_foot (S : Nat) (fv : Value) (f : Fo) (text : ByteArray) : FootR (fun b => b < S + 2) (idI S fv f text) := by
 refine ⟨?_, ?_⟩
 ·rintro m X W W' ⟨h1, h2, h3, h4, h5, h6, h7⟩ ho
  have hl := lt_heap h5
  refine ⟨h1.keep nodeE_keeps (ho.toBelow (by omega) (fun b hb => by have : ¬ b < S + 2 := hb.2; omega)) (Nat.le_refl _), ho.keep h2 (fun h => h.2 (by show S < S + 2; omega)), ho.keep h3 (fun h => h.2 (by show S + 1 < S + 2; omega)), ho.keep h4 (fun h => h.1 ((h6 _).2 (.inl rfl))), ho.keep h5 (fun h => h.1 ((h6 _).2 (.inr rfl))), h6, h7⟩
 ·rintro m X W b ⟨h1, h2, h3, h4, h5, h6, h7⟩ hb
  rcases (h6 b).1 hb with rfl | rfl
  ·exact lt_heap h4
  ·exact lt_heap h5
theorem idX_foot (S : Nat) (f : Fo) (text : ByteArray) (c : Code) : FootR (fun b => b < S + 2) (idX S f text c) := by
 refine ⟨?_, ?_⟩
 ·rintro m X W W' ⟨hc, x, h4, h5, h6, h7⟩ ho
  exact ⟨hc, x, ho.keep h4 (fun h => h.1 ((h6 _).2 (.inl rfl))), ho.keep h5 (fun h => h.1 ((h6 _).2 (.inr rfl))), h6, h7⟩
 ·rintro m X W b ⟨hc, x, h4, h5, h6, h7⟩ hb
  rcases (h6 b).1 hb with rfl | rfl
  ·exact lt_heap h4
  ·exact lt_heap h5
theorem byId_hit {f : Fo} {text : ByteArray} {m : Nat} (hm : m < (order f 0).length) (hn : ∀ k ∈ (order f 0).take m, hitB f text k = false) (hh : hitB f text (order f 0)[m] = true) : byId f text = some (order f 0)[m] := by
 unfold byId
 have e : (order f 0).find? (hitB f text) = ((order f 0).take m ++ (order f 0).drop m).find? (hitB f text) := by rw [List.take_append_drop]
 rw [e, List.find?_append, List.drop_eq_getElem_cons hm, List.find?_eq_none.2 (fun k hk => by rw [hn k hk]; simp), List.find?_cons_of_pos hh]
 simp
theorem empty_dec (t : ByteArray) : (!t.toList.isEmpty) = decide (t.size ≠ 0) := by
 rw [Lib.toList_data, Lib.size_eq]
 cases h : t.data.toList <;> simp
theorem idI_next {S : Nat} {fv : Value} {f : Fo} {text : ByteArray} {m : Nat} {X : Nat → Prop} {W w6 : World} (hI : idI S fv f text m X W) (hb : Below W.heap.size W w6) (x : Int) (hnx : (order f 0).take (m + 1) = (order f 0).take m ++ [x]) (hx : hitB f text x = false) :
  Off X W w6 ∧ idI S fv f text (m + 1) X w6 := by
 obtain ⟨h1, h2, h3, h4, h5, h6, h7⟩ := hI
 have hlt := lt_heap h5
 refine ⟨Off.below hb (fun b h h' => by omega), h1.keep nodeE_keeps (hb.mono (by omega)) (Nat.le_refl _), (hb.block _ (by omega)).trans h2, (hb.block _ (by omega)).trans h3, (hb.block _ (by omega)).trans h4, (hb.block _ (by omega)).trans h5, h6, ?_⟩
 intro k hk
 rw [hnx] at hk
 rcases List.mem_append.1 hk with hk | hk
 ·exact h7 k hk
 ·rw [List.mem_singleton.1 hk]; exact hx
theorem byId_none {f : Fo} {text : ByteArray} (hn : ∀ k ∈ order f 0, hitB f text k = false) : byId f text = none := by
 unfold byId
 exact List.find?_eq_none.2 (fun k hk => by rw [hn k hk]; simp)
set_option maxRecDepth 100000 in
set_option maxHeartbeats 4000000 in
theorem ById_calls (w : World) (v : Value) (f : Fo) (h : RdF w.heap.size w v f) (hm : mayB f = true) (text : ByteArray) : Calls Tryz.prog 77 #[v, .string text] w (ByIdPost f text w) := by
 obtain ⟨A0, c0, rfl, hl0, hc0, h'⟩ := h.form
 simp only [maxLen] at hc0
 have hl60 := (may_is hm).len
 have hn : isNode f 0 = true := (node_iff f 0).2 ⟨by omega, by omega⟩
 obtain ⟨w2, hw2⟩ : ∃ w2, (((w.alloc (.cells #[.slice A0 f.length c0] 29)).alloc (.cells #[.string text] 9)).alloc (.cells #[.int .i64 0] 3)).alloc (.cells #[.int .i64 0] 64) = w2 := ⟨_, rfl⟩
 have hs2 : w2.heap.size = w.heap.size + 4 := by rw [← hw2]; simp
 have p0 : w2.heap[w.heap.size]? = some (.cells #[.slice A0 f.length c0] 29 (0, 0)) := by rw [← hw2]; exact heap_old (heap_old (heap_old (World.alloc_heap_new _ _)))
 have p1 : w2.heap[w.heap.size + 1]? = some (.cells #[.string text] 9 (0, 0)) := by rw [← hw2]; exact heap_old (heap_old (heap_new (by simp)))
 have p2 : w2.heap[w.heap.size + 2]? = some (.cells #[.int .i64 0] 3 (0, 0)) := by rw [← hw2]; exact heap_old (heap_new (by simp))
 have p3 : w2.heap[w.heap.size + 3]? = some (.cells #[.int .i64 0] 64 (0, 0)) := by rw [← hw2]; exact heap_new (by simp)
 have hb2 : Below w.heap.size w w2 := by rw [← hw2]; exact ((((Below.refl _ _).alloc (Nat.le_refl _) _).alloc (by simp) _).alloc (by simp; omega) _).alloc (by simp; omega) _
 have hr2 : RdF w.heap.size w2 (.slice A0 f.length c0) f := h'.below nodeE_keeps hb2 (Nat.le_refl _)
 have hc2 := cell_of p0
 have Hw2 := Lib.hid hw2
 clear hw2 h h'
 refine (callsIn_wide (n := 0)).1 ?_
 refine callsIn_of_wp_marks Tryz.func77 rfl trivial ?_ rfl
 simp only [Tryz.ntmps77, List.size_toArray, List.length_cons, List.length_nil, Nat.reduceAdd, Nat.reduceSub, Array.replicate_succ, Array.replicate_zero, List.push_toArray, List.append_toArray, List.nil_append, List.cons_append]
 gi_upto_region 1 with fail
 rw [Hw2.out]
 gi_wp2_with (gi_at_call 112; (refine (callsIn_wide.2 (through_calls _ _ _ _ _)).mono ?_); rintro e w5 ⟨rfl, hw5⟩)
 have hz5 : w5.heap.size = w.heap.size + 6 := by rw [← hw5]; simp; omega
 have q0 : w5.heap[w.heap.size]? = some (.cells #[.slice A0 f.length c0] 29 (0, 0)) := by rw [← hw5]; exact heap_old (heap_old p0)
 have q1 : w5.heap[w.heap.size + 1]? = some (.cells #[.string text] 9 (0, 0)) := by rw [← hw5]; exact heap_old (heap_old p1)
 have q2 : w5.heap[w.heap.size + 2]? = some (.cells #[.int .i64 0] 3 (0, 0)) := by rw [← hw5]; exact heap_old (heap_old p2)
 have q3 : w5.heap[w.heap.size + 3]? = some (.cells #[.int .i64 0] 64 (0, 0)) := by rw [← hw5]; exact heap_old (heap_old p3)
 have qf : w5.heap[w.heap.size + 4]? = some (.cells #[.slice A0 f.length c0] 29 (0, 0)) := by rw [← hw5, ← hs2]; exact heap_old (World.alloc_heap_new w2 _)
 have qi : w5.heap[w.heap.size + 4 + 1]? = some (.cells #[.int .i64 0] 3 (0, 0)) := by
  rw [← hw5, ← hs2]
  have := World.alloc_heap_new (w2.alloc (.cells #[.slice A0 f.length c0] 29)) (.cells #[.int .i64 0] 3)
  rwa [World.size_alloc] at this
 have hb25 : Below w2.heap.size w2 w5 := by rw [← hw5]; exact ((Below.refl _ _).alloc (Nat.le_refl _) _).alloc (by simp) _
 have hb5 : Below w.heap.size w w5 := bthen hb2 hb25
 have hr5 : RdF (w.heap.size + 2) w5 (.slice A0 f.length c0) f := (hr2.keep nodeE_keeps (hb25.mono (by omega)) (Nat.le_refl _)).mono nodeE_keeps (by omega)
 have hall : ∀ x ∈ order f 0, isNode f x = true := fun x hx => ((order_mem (may_is hm) hn x).1 hx).1
 have Hall := Lib.hid hall; have Hb5 := Lib.hid hb5; have Hz5 := Lib.hid hz5
 clear hw5 hall hb25 hb5 hb2 hr2 hc2 Hw2 p0 p1 p2 p3
 refine wpIn_rangeR rfl (enters_of Tryz.func188 (by kernel_rfl) rfl) (through_seqR f hm 0 hn (by decide) (w.heap.size + 2) (w.heap.size + 4 + 1) (w.heap.size + 4) (by omega) (by omega) (.slice A0 f.length c0))
  (fun W ho => ⟨ho.keep qi (fun h => h), ho.keep qf (fun h => h), hr5.keep nodeE_keeps (ho.toBelow (by omega) (fun b hb => hb.elim)) (Nat.le_refl _), by have := ho.size; omega⟩)
  (idI w.heap.size (.slice A0 f.length c0) f text) (idX w.heap.size f text) (idI_foot _ _ _ _) (idX_foot _ _ _) (fun b => b = w.heap.size + 2 ∨ b = w.heap.size + 3)
  (fun b hb => ⟨fun h => h, fun h => by omega⟩)
  ⟨hr5, q0, q1, q2, q3, fun b => Iff.rfl, by simp⟩
  (fun b h => by rcases h with h | h | h | h; exact h.elim; omega; omega; omega) (fun b hb => by have : b < w.heap.size + 2 := hb; omega)
  (fun m => { tmps := #[.slice A0 f.length c0, .string text, .pointer (some ⟨w.heap.size, 0, none⟩), .pointer (some ⟨w.heap.size + 1, 0, none⟩), .pointer (some ⟨w.heap.size + 1 + 1, 0, none⟩), .pointer (some ⟨w.heap.size + 1 + 1 + 1, 0, none⟩), ((order f 0).map (Value.int .i64)).getD m undef, undef, undef, .slice A0 f.length c0,
   .func (.func 188) #[] #[.pointer (some ⟨w.heap.size + 4 + 1, 0, none⟩), .pointer (some ⟨w.heap.size + 4, 0, none⟩)], ((order f 0).map (Value.int .i64)).getD m undef, undef, undef, undef, undef, undef, undef, undef, undef, undef, undef, undef, undef, undef, undef, undef, undef, undef, undef], defers := [] })
  ?assign ?body ?done ?stop
 case assign =>
  intro l m hm' W K hK
  rw [show ((order f 0).map (Value.int .i64)).getD m undef = ((order f 0).map (Value.int .i64))[m] by rw [List.getD_eq_getElem?_getD, List.getElem?_eq_getElem hm']; rfl] at hK
  generalize ((order f 0).map (Value.int .i64))[m] = x at *
  gi_wp2
  exact hK
 case body =>
  rintro l m hm' X' W' ⟨h1, h2, h3, h4, h5, h6, h7⟩
  have hmo : m < (order f 0).length := by simpa using hm'
  rw [show ((order f 0).map (Value.int .i64)).getD m undef = .int .i64 (order f 0)[m] by rw [List.getD_eq_getElem?_getD, List.getElem?_eq_getElem hm']; simp]
  have hnx : (order f 0).take (m + 1) = (order f 0).take m ++ [(order f 0)[m]] := List.take_succ_eq_append_getElem hmo
  have hhit := byId_hit (text := text) hmo h7
  have hat := Attr_calls W' _ f (h1.mono nodeE_keeps (by have := lt_heap h5; omega)) (order f 0)[m] idN
  have hc0 := cell_of h2
  have hlt := lt_heap h5
  have hkeep : ∀ w6, Below W'.heap.size W' w6 → w6.cell? ⟨w.heap.size + 1, 0, none⟩ = some (.string text) := fun w6 hb => cell_grow hb (cell_of h3)
  have hfr2 : ∀ w6, Below W'.heap.size W' w6 → w6.heap[w.heap.size + 2]? = some (.cells #[.int .i64 0] 3 (0, 0)) ∧ w6.heap[w.heap.size + 3]? = some (.cells #[.int .i64 0] 64 (0, 0)) := fun w6 hb => ⟨(hb.block _ (by omega)).trans h4, (hb.block _ (by omega)).trans h5⟩
  have hH : hitB f text (order f 0)[m] = (decide (attrErr f (order f 0)[m] idN = 0) && decide (attrVal f (order f 0)[m] idN = text) && decide (text.size ≠ 0)) := rfl
  have H1 := Lib.hid h1; have H2 := Lib.hid h2; have H3 := Lib.hid h3; have H4 := Lib.hid h4; have H5 := Lib.hid h5; have H6 := Lib.hid h6; have H7 := Lib.hid h7; have Hnx := Lib.hid hnx; have Hhit := Lib.hid hhit; have Hat := Lib.hid hat; have Hkeep := Lib.hid hkeep; have Hfr := Lib.hid hfr2; have HH := Lib.hid hH
  clear h1 h2 h3 h4 h5 h6 h7 hnx hhit hat hkeep hfr2 hH q0 q1 q2 q3 qf qi hr5
  generalize (order f 0)[m] = x at *
  unfold AttrPost at Hat
  obtain ⟨E, hE⟩ : ∃ E, attrErr f x idN = E := ⟨_, rfl⟩
  obtain ⟨V, hV⟩ : ∃ V, attrVal f x idN = V := ⟨_, rfl⟩
  rw [hE, hV] at Hat HH
  gi_wp2_with (gi_at_call 75; (refine (callsIn_wide.2 Hat.out).mono ?_); rintro e w6 ⟨rfl, hb6⟩; have k1 := Hkeep.out w6 hb6; obtain ⟨k2, k3⟩ := Hfr.out w6 hb6; have k4 := free_of k2 0; have k5 := free_of k3 0; have k6 := cell_of k2; have k7 := cell_of k3; have K2 := Lib.hid k2; have K3 := Lib.hid k3; have Hb6 := Lib.hid hb6; clear k2 k3 hb6)
  ·have he : V.toList = text.toList := by assumption
   have hE0 : E = 0 := by assumption
   have ht : (!text.toList.isEmpty) = true := by assumption
   rw [FSame.str_inj] at he
   rw [empty_dec] at ht
   have hbi := Hhit.out (by rw [HH.out, decide_eq_true he, decide_eq_true hE0, ht]; rfl)
   refine ⟨X', Grew.refl _ _, ((Off.below Hb6.out (fun b h h' => by omega)).trans (Off.setCell _ _ _ ((H6.out _).2 (.inl rfl)))).trans (Off.setCell _ _ _ ((H6.out _).2 (.inr rfl))), rfl, x, (set_other (by omega)).trans (set_one K2.out), set_one ((set_other (by omega)).trans K3.out), H6.out, hbi⟩
  ·have ht : (!text.toList.isEmpty) = false := by assumption
   rw [empty_dec] at ht
   obtain ⟨r1, r2⟩ := idI_next ⟨H1.out, H2.out, H3.out, H4.out, H5.out, H6.out, H7.out⟩ Hb6.out x Hnx.out (by rw [HH.out, ht, Bool.and_false])
   exact ⟨X', Grew.refl _ _, r1, r2⟩
  ·have he : ¬ V.toList = text.toList := by assumption
   rw [FSame.str_inj] at he
   obtain ⟨r1, r2⟩ := idI_next ⟨H1.out, H2.out, H3.out, H4.out, H5.out, H6.out, H7.out⟩ Hb6.out x Hnx.out (by rw [HH.out, decide_eq_false he, Bool.and_false, Bool.false_and])
   exact ⟨X', Grew.refl _ _, r1, r2⟩
  ·have he : ¬ E = 0 := by assumption
   obtain ⟨r1, r2⟩ := idI_next ⟨H1.out, H2.out, H3.out, H4.out, H5.out, H6.out, H7.out⟩ Hb6.out x Hnx.out (by rw [HH.out, decide_eq_false he, Bool.false_and, Bool.false_and])
   exact ⟨X', Grew.refl _ _, r1, r2⟩
 case done =>
  rintro D X' W hD hXD hgr hof ⟨h1, h2, h3, h4, h5, h6, h7⟩ hK
  rw [List.length_map, List.take_of_length_le (Nat.le_refl _)] at h7
  have hbi := byId_none h7
  have hc4 := cell_of h4
  have hc5 := cell_of h5
  have hf4 := free_of h4 0
  have hf5 := free_of h5 0
  have H4 := Lib.hid h4; have H5 := Lib.hid h5; have HK := Lib.hid hK; have Hof := Lib.hid hof; have Hbi := Lib.hid hbi
  clear h1 h2 h3 h4 h5 h6 h7 hK hof hgr q0 q1 q2 q3 qf qi hr5 hbi
  gi_wp2
  refine ⟨by simp, .inl ⟨_, _, rfl, run_takeDeferred ((set_other (by omega)).trans ((set_other (by omega)).trans HK.out)), ?_⟩⟩
  have g2 : (((W.setCell ⟨w.heap.size + 2, 0, none⟩ (.int .i64 0)).setCell ⟨w.heap.size + 3, 0, none⟩ (.int .i64 3)).putObj D (.deferred none)).heap[w.heap.size + 2]? = some (.cells #[.int .i64 0] 3 (0, 0)) := (put_other (by omega)).trans ((set_other (by omega)).trans (set_one H4.out))
  have g3 : (((W.setCell ⟨w.heap.size + 2, 0, none⟩ (.int .i64 0)).setCell ⟨w.heap.size + 3, 0, none⟩ (.int .i64 3)).putObj D (.deferred none)).heap[w.heap.size + 3]? = some (.cells #[.int .i64 3] 64 (0, 0)) := (put_other (by omega)).trans (set_one ((set_other (by omega)).trans H5.out))
  have c2 := cell_of g2
  have c3 := cell_of g3
  refine ⟨.tuple #[.int .i64 0, .int .i64 3], by simp [results, Tryz.results77, c2, c3, go_sem], by rw [Hbi.out]; rfl, ?_⟩
  have b1 := ((Hb5.out.trans (Hof.out.toBelow (B := w.heap.size) (by omega) (fun b h => by rcases h with h | h; omega; exact h.elim))).setCell (p := ⟨w.heap.size + 2, 0, none⟩) (by simp) (.int .i64 0)).setCell (p := ⟨w.heap.size + 3, 0, none⟩) (by simp) (.int .i64 3)
  exact b1.trans (Off.toBelow (Y := fun b => b = D) (Off.putObj _ _ _ rfl) b1.size (fun b h => by omega))
 case stop =>
  rintro D c m X' W hk hD hXD hgr hof ⟨rfl, x, h4, h5, h6, h7⟩ hK
  gi_wp2
  refine ⟨by simp, .inl ⟨_, _, rfl, run_takeDeferred hK, ?_⟩⟩
  have c2 := cell_of ((put_other (o := .deferred none) (show w.heap.size + 2 ≠ D by omega)).trans h4)
  have c3 := cell_of ((put_other (o := .deferred none) (show w.heap.size + 3 ≠ D by omega)).trans h5)
  refine ⟨.tuple #[.int .i64 x, .int .i64 0], by simp [results, Tryz.results77, c2, c3, go_sem], by rw [h7]; rfl, ?_⟩
  have b1 := Hb5.out.trans (hof.toBelow (B := w.heap.size) (by omega) (fun b h => by rcases h with h | h; omega; exact h.elim))
  exact b1.trans (Off.toBelow (Y := fun b => b = D) (Off.putObj _ _ _ rfl) b1.size (fun b h => by omega))
end Go.Proofs.YtmbhkkophkccbaaGreat.Wk
end
section
namespace Go.Proofs.YtmbhkkophkccbaaGreat.FS
open Go.Proofs.YtmbhkkophkccbaaGreat.WS
set_option linter.unusedVariables false
def demoF : Fo := [⟨0, ⟨#[]⟩, ⟨#[]⟩, [], -1, [1]⟩, ⟨1, ⟨#[100, 105, 118]⟩, ⟨#[]⟩, [], 0, [2]⟩, ⟨2, ⟨#[]⟩, ⟨#[120, 60]⟩, [], 1, []⟩]
theorem demo_family : familyB demoF = true := by decide
theorem demo_climbs : climbsP demoF := by
 intro i hi
 have h3 : i < 3 := hi
 match i, h3 with
 | 0, _ => exact ⟨1, by simp only [Up]; decide⟩
 | 1, _ => exact ⟨2, by simp only [Up]; decide⟩
 | 2, _ => exact ⟨3, by simp only [Up]; decide⟩
theorem demo_may : mayB demoF = true := by
 unfold mayB
 rw [demo_family, climbs_true demo_climbs]
 decide
theorem demo_below : belowB demoF 0 2 = true := below_eq demo_may (by decide) ⟨fun _ => rfl, fun _ => ⟨by decide, 2, by simp only [Reach]; decide⟩⟩
theorem demo_tops : (topsL demoF).length = 1 := by decide
theorem demo_print : printF demoF 0 = [60, 100, 105, 118, 62, 120, 38, 108, 116, 59, 60, 47, 100, 105, 118, 62] := by
 unfold printF
 rw [if_pos ⟨demo_may, by decide⟩, printL_eq demo_family demo_climbs (by decide)]
 rw [show (at_ demoF 0).kids = [1] by decide, List.flatMap_cons, List.flatMap_nil, printL_eq demo_family demo_climbs (by decide)]
 rw [show (at_ demoF 1).kids = [2] by decide, List.flatMap_cons, List.flatMap_nil, printL_eq demo_family demo_climbs (by decide)]
 rw [show (at_ demoF 2).kids = [] by decide, List.flatMap_nil]
 decide
end Go.Proofs.YtmbhkkophkccbaaGreat.FS
end
section
namespace Go.Proofs.YtmbhkkophkccbaaGreat.FS
open Go.Proofs.YtmbhkkophkccbaaGreat.WS
set_option linter.unusedVariables false
def dOps : List Opn := [{ kind := 1, name := ⟨#[97]⟩ }, { kind := 4, id := 1 }, { kind := 2, text := ⟨#[120]⟩ }, { kind := 4, id := 2, «to» := 1 }, { kind := 6, id := 1, name := ⟨#[105, 100]⟩, text := ⟨#[107]⟩ }]
def d1 : Fo := [⟨0, ⟨#[]⟩, ⟨#[]⟩, [], -1, []⟩, ⟨1, ⟨#[97]⟩, ⟨#[]⟩, [], -1, []⟩]
def d2 : Fo := [⟨0, ⟨#[]⟩, ⟨#[]⟩, [], -1, [1]⟩, ⟨1, ⟨#[97]⟩, ⟨#[]⟩, [], 0, []⟩]
def d3 : Fo := [⟨0, ⟨#[]⟩, ⟨#[]⟩, [], -1, [1]⟩, ⟨1, ⟨#[97]⟩, ⟨#[]⟩, [], 0, []⟩, ⟨2, ⟨#[]⟩, ⟨#[120]⟩, [], -1, []⟩]
def d4 : Fo := [⟨0, ⟨#[]⟩, ⟨#[]⟩, [], -1, [1]⟩, ⟨1, ⟨#[97]⟩, ⟨#[]⟩, [], 0, [2]⟩, ⟨2, ⟨#[]⟩, ⟨#[120]⟩, [], 1, []⟩]
def d5 : Fo := [⟨0, ⟨#[]⟩, ⟨#[]⟩, [], -1, [1]⟩, ⟨1, ⟨#[97]⟩, ⟨#[]⟩, [⟨⟨#[105, 100]⟩, ⟨#[107]⟩⟩], 0, [2]⟩, ⟨2, ⟨#[]⟩, ⟨#[120]⟩, [], 1, []⟩]
theorem one_do {f g : Fo} {o : Opn} (h : oneE f o = 0) (hd : doF f o = g) : oneF f o = g := by unfold oneF; rw [if_pos h, hd]
theorem e1 : oneF newFo { kind := 1, name := ⟨#[97]⟩ } = d1 := one_do (by
 unfold oneE checks
 rw [if_pos (by decide), if_pos rfl]
 decide) (by decide)
theorem m1 : mayB d1 = true := by rw [← e1]; exact one_may new_may _
theorem b1 : belowB d1 1 0 = false := below_eq m1 (by decide) ⟨fun h => by
 rw [belowP_step (by decide) (by decide)] at h
 exact absurd h (belowP_end (by decide)), fun h => by cases h⟩
theorem e2 : oneF d1 { kind := 4, id := 1 } = d2 := one_do (by
 unfold oneE checks
 rw [if_pos (by decide), if_neg (by decide), if_neg (by decide), if_pos rfl]
 simp only [b1]
 decide) (by decide)
theorem m2 : mayB d2 = true := by rw [← e2]; exact one_may m1 _
theorem e3 : oneF d2 { kind := 2, text := ⟨#[120]⟩ } = d3 := one_do (by
 unfold oneE checks
 rw [if_pos (by decide), if_neg (by decide), if_pos (by decide)]
 decide) (by decide)
theorem m3 : mayB d3 = true := by rw [← e3]; exact one_may m2 _
theorem b3 : belowB d3 2 1 = false := below_eq m3 (by decide) ⟨fun h => by
 rw [belowP_step (by decide) (by decide), show (at_ d3 1).parent = 0 by decide, belowP_step (by decide) (by decide)] at h
 exact absurd h (belowP_end (by decide)), fun h => by cases h⟩
theorem e4 : oneF d3 { kind := 4, id := 2, «to» := 1 } = d4 := one_do (by
 unfold oneE checks
 rw [if_pos (by decide), if_neg (by decide), if_neg (by decide), if_pos rfl]
 simp only [b3]
 decide) (by decide)
theorem m4 : mayB d4 = true := by rw [← e4]; exact one_may m3 _
theorem e5 : oneF d4 { kind := 6, id := 1, name := ⟨#[105, 100]⟩, text := ⟨#[107]⟩ } = d5 := one_do (by
 unfold oneE checks
 rw [if_pos (by decide), if_neg (by decide), if_neg (by decide), if_neg (by decide), if_neg (by decide), if_pos rfl]
 decide) (by decide)
theorem m5 : mayB d5 = true := by rw [← e5]; exact one_may m4 _
theorem d_grow : dOps.foldl oneF newFo = d5 := by
 show oneF (oneF (oneF (oneF (oneF newFo _) _) _) _) _ = d5
 rw [e1, e2, e3, e4, e5]
theorem d_node {i : Int} (h : isNode d5 i = true) : order d5 i = i :: (at_ d5 i).kids.flatMap (order d5) := order_eq (may_is m5).fam (may_is m5).climb h
theorem d_order : order d5 0 = [0, 1, 2] := by
 rw [d_node (by decide), show (at_ d5 0).kids = [1] by decide, List.flatMap_cons, List.flatMap_nil, d_node (by decide), show (at_ d5 1).kids = [2] by decide, List.flatMap_cons, List.flatMap_nil, d_node (by decide), show (at_ d5 2).kids = [] by decide]
 rfl
theorem d_content : contentL d5 0 = [120] := by
 unfold contentL
 rw [d_order]
 decide
theorem d_byId : byId d5 ⟨#[107]⟩ = some 1 := by
 unfold byId
 rw [d_order]
 decide
theorem d_parent : parentE d5 2 = (1, 0) := by decide
end Go.Proofs.YtmbhkkophkccbaaGreat.FS
end
section
namespace Go.Proofs.YtmbhkkophkccbaaGreat.Fi
open Go Go.RowKit WS FS Fn Pa
set_option linter.unusedVariables false
def fOps : List Opn := [{ kind := 1, name := ⟨#[65]⟩ }, { kind := 4, id := 1 }, { kind := 1, name := ⟨#[98]⟩ }, { kind := 4, id := 2, «to» := 1 }, { kind := 6, id := 2, name := ⟨#[99, 108, 97, 115, 115]⟩, text := ⟨#[120, 32, 121]⟩ }]
def g1 : Fo := [⟨0, ⟨#[]⟩, ⟨#[]⟩, [], -1, []⟩, ⟨1, ⟨#[65]⟩, ⟨#[]⟩, [], -1, []⟩]
def g2 : Fo := [⟨0, ⟨#[]⟩, ⟨#[]⟩, [], -1, [1]⟩, ⟨1, ⟨#[65]⟩, ⟨#[]⟩, [], 0, []⟩]
def g3 : Fo := [⟨0, ⟨#[]⟩, ⟨#[]⟩, [], -1, [1]⟩, ⟨1, ⟨#[65]⟩, ⟨#[]⟩, [], 0, []⟩, ⟨1, ⟨#[98]⟩, ⟨#[]⟩, [], -1, []⟩]
def g4 : Fo := [⟨0, ⟨#[]⟩, ⟨#[]⟩, [], -1, [1]⟩, ⟨1, ⟨#[65]⟩, ⟨#[]⟩, [], 0, [2]⟩, ⟨1, ⟨#[98]⟩, ⟨#[]⟩, [], 1, []⟩]
def g5 : Fo := [⟨0, ⟨#[]⟩, ⟨#[]⟩, [], -1, [1]⟩, ⟨1, ⟨#[65]⟩, ⟨#[]⟩, [], 0, [2]⟩, ⟨1, ⟨#[98]⟩, ⟨#[]⟩, [⟨⟨#[99, 108, 97, 115, 115]⟩, ⟨#[120, 32, 121]⟩⟩], 1, []⟩]
theorem k1 : oneF newFo { kind := 1, name := ⟨#[65]⟩ } = g1 := one_do (by
 unfold oneE checks
 rw [if_pos (by decide), if_pos rfl]
 decide) (by decide)
theorem n1 : mayB g1 = true := by rw [← k1]; exact one_may new_may _
theorem h1 : belowB g1 1 0 = false := below_eq n1 (by decide) ⟨fun h => by
 rw [belowP_step (by decide) (by decide)] at h
 exact absurd h (belowP_end (by decide)), fun h => by cases h⟩
theorem k2 : oneF g1 { kind := 4, id := 1 } = g2 := one_do (by
 unfold oneE checks
 rw [if_pos (by decide), if_neg (by decide), if_neg (by decide), if_pos rfl]
 simp only [h1]
 decide) (by decide)
theorem n2 : mayB g2 = true := by rw [← k2]; exact one_may n1 _
theorem k3 : oneF g2 { kind := 1, name := ⟨#[98]⟩ } = g3 := one_do (by
 unfold oneE checks
 rw [if_pos (by decide), if_pos rfl]
 decide) (by decide)
theorem n3 : mayB g3 = true := by rw [← k3]; exact one_may n2 _
theorem h3 : belowB g3 2 1 = false := below_eq n3 (by decide) ⟨fun h => by
 rw [belowP_step (by decide) (by decide), show (at_ g3 1).parent = 0 by decide, belowP_step (by decide) (by decide)] at h
 exact absurd h (belowP_end (by decide)), fun h => by cases h⟩
theorem k4 : oneF g3 { kind := 4, id := 2, «to» := 1 } = g4 := one_do (by
 unfold oneE checks
 rw [if_pos (by decide), if_neg (by decide), if_neg (by decide), if_pos rfl]
 simp only [h3]
 decide) (by decide)
theorem n4 : mayB g4 = true := by rw [← k4]; exact one_may n3 _
theorem k5 : oneF g4 { kind := 6, id := 2, name := ⟨#[99, 108, 97, 115, 115]⟩, text := ⟨#[120, 32, 121]⟩ } = g5 := one_do (by
 unfold oneE checks
 rw [if_pos (by decide), if_neg (by decide), if_neg (by decide), if_neg (by decide), if_neg (by decide), if_pos rfl]
 decide) (by decide)
theorem n5 : mayB g5 = true := by rw [← k5]; exact one_may n4 _
theorem g_grow : fOps.foldl oneF newFo = g5 := by
 show oneF (oneF (oneF (oneF (oneF newFo _) _) _) _) _ = g5
 rw [k1, k2, k3, k4, k5]
theorem g_node {i : Int} (h : isNode g5 i = true) : order g5 i = i :: (at_ g5 i).kids.flatMap (order g5) := order_eq (may_is n5).fam (may_is n5).climb h
theorem g_order2 : order g5 2 = [2] := by
 rw [g_node (by decide), show (at_ g5 2).kids = [] by decide]
 rfl
theorem g_order : order g5 0 = [0, 1, 2] := by
 rw [g_node (by decide), show (at_ g5 0).kids = [1] by decide, List.flatMap_cons, List.flatMap_nil, g_node (by decide), show (at_ g5 1).kids = [2] by decide, List.flatMap_cons, List.flatMap_nil, g_order2]
 rfl
theorem g_up2 : Up g5 3 2 := by simp only [Up]; decide
theorem g_up1 : Up g5 2 1 := by simp only [Up]; decide
theorem g_up0 : Up g5 1 0 := by simp only [Up]; decide
theorem g_is2 : isS g5 2 demoL = true := by
 unfold isS wayOf
 rw [depthOf_up g_up2]
 kernel_rfl
theorem g_is1 : isS g5 1 demoL = false := by
 unfold isS wayOf
 rw [depthOf_up g_up1]
 kernel_rfl
theorem g_is0 : isS g5 0 demoL = false := by
 unfold isS wayOf
 rw [depthOf_up g_up0]
 kernel_rfl
theorem g_all : allS g5 0 demoL = [2] := by
 unfold allS Wk.orderL
 rw [if_pos (by decide), g_order]
 simp [List.filter, g_is0, g_is1, g_is2]
theorem g_first : (Wk.orderL g5 2).find? (fun i => isS g5 i demoL) = some 2 := by
 unfold Wk.orderL
 rw [if_pos (by decide), g_order2]
 simp [g_is2]
theorem g_fits : fitsC (at_ g5 1) [] = true := by decide
end Go.Proofs.YtmbhkkophkccbaaGreat.Fi
end
section
namespace Go.Proofs.YtmbhkkophkccbaaGreat.Fi
open Go.Proofs.YtmbhkkophkccbaaGreat.WS Go.Proofs.YtmbhkkophkccbaaGreat.FS Go.Proofs.YtmbhkkophkccbaaGreat.Fn Go.Proofs.YtmbhkkophkccbaaGreat.Grown
set_option linter.unusedVariables false
def SzN (n : Nd) : Prop := n.name.size ≤ 300 ∧ ∀ a ∈ n.attrs, a.value.size ≤ 300
def SzF (f : Fo) : Prop := ∀ n ∈ f, SzN n
theorem SzF.set {f : Fo} (h : SzF f) (i : Nat) {n : Nd} (hn : SzN n) : SzF (f.set i n) := fun m hm => by
 rcases List.mem_or_eq_of_mem_set hm with h1 | rfl
 ·exact h m h1
 ·exact hn
theorem SzF.at {f : Fo} (h : SzF f) (i : Int) : SzN (at_ f i) := by
 have hd : SzN ({} : Nd) := ⟨by decide, fun a ha => by cases ha⟩
 unfold at_
 split
 ·rw [List.getD_eq_getElem?_getD]
  by_cases hi : i.toNat < f.length
  ·rw [List.getElem?_eq_getElem hi]
   exact h _ (List.getElem_mem hi)
  ·rw [List.getElem?_eq_none (by omega)]
   exact hd
 ·exact hd
theorem SzF.take {f : Fo} (h : SzF f) (i : Int) : SzF (takeF f i) := by
 have hg : SzF (if (at_ f i).parent = -1 then f else f.set (at_ f i).parent.toNat { at_ f (at_ f i).parent with kids := (at_ f (at_ f i).parent).kids.filter (· != i) }) := by
  split
  ·exact h
  ·exact h.set _ (h.at _)
 exact hg.set _ (hg.at i)
theorem SzF.insert {f : Fo} (h : SzF f) (o : Opn) : SzF (insertF f o) := by
 have hg := h.take o.id
 have hh : SzF ((takeF f o.id).set o.id.toNat { at_ (takeF f o.id) o.id with parent := o.to }) := hg.set _ (hg.at o.id)
 exact hh.set _ (hh.at o.to)
theorem set_sz {l : List Av} (h : ∀ a ∈ l, a.value.size ≤ 300) (n t : ByteArray) (ht : t.size ≤ 300) : ∀ a ∈ setA l n t, a.value.size ≤ 300 := fun a ha => by
 unfold setA at ha
 split at ha
 ·rcases List.mem_or_eq_of_mem_set ha with h1 | rfl
  ·exact h a h1
  ·exact ht
 ·rw [List.mem_append, List.mem_singleton] at ha
  rcases ha with h1 | rfl
  ·exact h a h1
  ·exact ht
theorem del_sz {l : List Av} (h : ∀ a ∈ l, a.value.size ≤ 300) (n : ByteArray) : ∀ a ∈ delA l n, a.value.size ≤ 300 := fun a ha => by
 unfold delA at ha
 split at ha
 ·exact h a (List.mem_of_mem_eraseIdx ha)
 ·exact h a ha
theorem SzF.one {f : Fo} (h : SzF f) {o : Opn} (ho : opB o = true) : SzF (oneF f o) := by
 unfold opB at ho
 rw [Bool.and_eq_true, decide_eq_true_eq, decide_eq_true_eq] at ho
 unfold oneF
 split
 ·unfold doF
  split
  ·intro n hn
   unfold freshF at hn
   rw [List.mem_append, List.mem_singleton] at hn
   rcases hn with h1 | rfl
   ·exact h n h1
   ·exact ⟨ho.1, fun a ha => by cases ha⟩
  ·split
   ·exact h.insert o
   ·split
    ·exact h.take _
    ·split
     ·exact h.set _ ⟨(h.at _).1, set_sz (h.at _).2 _ _ ho.2⟩
     ·split
      ·exact h.set _ ⟨(h.at _).1, del_sz (h.at _).2 _⟩
      ·exact h.set _ (h.at _)
 ·exact h
theorem grow_sz : ∀ (l : List Opn) {f : Fo}, SzF f → l.all opB = true → SzF (l.foldl oneF f)
 | [], f, h, _ => h
 | o :: l, f, h, hl => by
  rw [List.all_cons, Bool.and_eq_true] at hl
  exact grow_sz l (h.one hl.1) hl.2
theorem grow_sm {l : List Opn} (h : bndO l = true) : ∀ n ∈ growF l, Sm n := fun n hn => by
 unfold bndO at h
 rw [Bool.and_eq_true] at h
 have hz : SzF newFo := fun m hm => by
  rw [show newFo = [⟨0, ⟨#[]⟩, ⟨#[]⟩, [], -1, []⟩] from rfl, List.mem_singleton] at hm
  subst hm
  exact ⟨by decide, fun a ha => by cases ha⟩
 have := grow_sz l hz h.1 n hn
 exact ⟨Nat.le_trans this.1 (by decide), fun a ha => Nat.le_trans (this.2 a ha) (by decide)⟩
end Go.Proofs.YtmbhkkophkccbaaGreat.Fi
end
section
namespace Go.Proofs.YtmbhkkophkccbaaGreat.Fi
open Go Go.RowKit WS FS Fn Pa Grown
set_option linter.unusedVariables false
def starL : Sel := [[{ c := [], child := false }]]
theorem star_parse : parseP ⟨#[42]⟩ = .ok starL := by kernel_rfl
theorem star_sm : SmS starL := (parse_sm star_parse).2
theorem up_len (f : Fo) : ∀ (n : Nat) (i : Int), (upL f n i).length = n
 | 0, _ => rfl
 | n + 1, i => by rw [upL, List.length_cons, up_len f n]
theorem star_ends (f : Fo) (n : Nat) (i : Int) (hn : 1 ≤ n) : endsB f (upL f n i).reverse [{ c := [], child := false }] = decide ((at_ f i).kind = 1) := by
 obtain ⟨m, rfl⟩ : ∃ m, n = m + 1 := ⟨n - 1, by omega⟩
 unfold endsB endsL endsL stepL
 have hl : (upL f (m + 1) i).reverse.length = m + 1 := by rw [List.length_reverse, up_len]
 have hg : (upL f (m + 1) i).reverse.getD m 0 = i := by
  rw [List.getD_eq_getElem?_getD, List.getElem?_reverse (by rw [up_len]; omega), up_len]
  simp [upL]
 rw [hl]
 simp only [Nat.add_sub_cancel]
 rw [List.getD_eq_getElem?_getD, List.getElem?_map, List.getElem?_range (by omega)]
 simp only [Option.map_some, Option.getD_some, hg]
 simp [fitsC]
theorem star_is {f : Fo} (hm : mayB f = true) {i : Int} (hi : isNode f i = true) : isS f i starL = decide ((at_ f i).kind = 1) := by
 unfold isS wayOf
 rw [hi]
 have hk := hi
 unfold isNode at hk
 rw [Bool.and_eq_true, decide_eq_true_eq, decide_eq_true_eq] at hk
 obtain ⟨k, rfl⟩ : ∃ k : Nat, i = (k : Int) := ⟨i.toNat, by omega⟩
 obtain ⟨N, hN⟩ := may_climbs hm k (by omega)
 rw [depthOf_up hN]
 have h1 : 1 ≤ N := by
  cases N with
  | zero => simp only [Up] at hN; omega
  | succ n => omega
 simp only [starL, List.any_cons, List.any_nil, Bool.or_false, Bool.true_and]
 exact star_ends f N _ h1
theorem none_is (f : Fo) (i : Int) : isS f i [] = false := by unfold isS; simp
theorem none_all (f : Fo) (i : Int) : allS f i [] = [] := by
 unfold allS
 rw [List.filter_eq_nil_iff]
 intro a _
 rw [none_is]
 decide
theorem star_all {f : Fo} (hm : mayB f = true) (i : Int) (ho : ∀ x ∈ Wk.orderL f i, isNode f x = true) : allS f i starL = (Wk.orderL f i).filter (fun x => decide ((at_ f x).kind = 1)) := by
 unfold allS
 exact List.filter_congr (fun x hx => star_is hm (ho x hx))
end Go.Proofs.YtmbhkkophkccbaaGreat.Fi
end
