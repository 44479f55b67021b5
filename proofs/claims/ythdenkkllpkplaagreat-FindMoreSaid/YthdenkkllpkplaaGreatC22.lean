/- Joined by a program: FnG, FnH, PaK, FDemo, WkDemo, FnM, FnSm, FnSt, BndA, GrA, FSh. -/
import Derived.Test.YthdenkkllpkplaaGreatC21
import Derived.Test.YthdenkkllpkplaaGreatC20
import Derived.Test.YthdenkkllpkplaaGreatC02
import Derived.Test.YthdenkkllpkplaaGreatC15
import Derived.Test.YthdenkkllpkplaaGreatC14
section
/- find: Is, All, First. -/
namespace Go.Proofs.YthdenkkllpkplaaGreat.Fn
open Go Go.RowKit Go.Proofs.YthdenkkllpkplaaGreat.Seq Go.Proofs.YthdenkkllpkplaaGreat.WS Go.Proofs.YthdenkkllpkplaaGreat.FS Go.Proofs.YthdenkkllpkplaaGreat.Mem Go.Proofs.YthdenkkllpkplaaGreat.Rd Go.Proofs.YthdenkkllpkplaaGreat.Shapes Go.Proofs.YthdenkkllpkplaaGreat.Word Go.Proofs.YthdenkkllpkplaaGreat.FFam Go.Proofs.YthdenkkllpkplaaGreat.Work
set_option linter.unusedVariables false
set_option linter.unusedSimpArgs false
def SmS (l : Sel) : Prop := ∀ r ∈ l, ∀ x ∈ r, SmC x.c
noncomputable def depthOf (f : Fo) (i : Int) : Nat := @dite _ (∃ n, Up f n i) (Classical.propDecidable _) (fun h => Classical.choose h) (fun _ => 0)
theorem depthOf_up {f : Fo} {n : Nat} {i : Int} (h : Up f n i) : depthOf f i = n := by
  unfold depthOf
  have hx : ∃ n, Up f n i := ⟨n, h⟩
  rw [dif_pos hx]
  exact (Classical.choose_spec hx).unique h
/-- The way from the top one down to a node. -/
noncomputable def wayOf (f : Fo) (i : Int) : List Int := (upL f (depthOf f i) i).reverse
/-- Is a node one of a selector's? -/
noncomputable def isS (f : Fo) (i : Int) (l : Sel) : Bool := isNode f i && l.any (fun r => endsB f (wayOf f i) r)
set_option maxRecDepth 100000 in
theorem is1_calls (w : World) (bf bw : Nat) (v : Value) (f : Fo) (A : Option Addr) (c : Nat) (way : List Int) (hbf : w.cell? ⟨bf, 0, none⟩ = some v) (hbw : w.cell? ⟨bw, 0, none⟩ = some (.slice A way.length c)) (h : RdF w.heap.size w v f) (hm : mayB f = true) (hsm : ∀ n ∈ f, Sm n)
    (hway : RdL (intE .i64) 1 w.heap.size w (.slice A way.length c) way) (hnode : ∀ x ∈ way, isNode f x = true) (hlw : 0 < way.length ∧ way.length ≤ 60) (At : Option Addr) (ct : Nat) (r : Sro) (hr : RdL stepE 2 w.heap.size w (.slice At r.length ct) r) (hrs : ∀ x ∈ r, SmC x.c) :
    Calls Tryz.prog 81 #[.slice At r.length ct, .pointer (some ⟨bf, 0, none⟩), .pointer (some ⟨bw, 0, none⟩)] w fun e w' => e = .returned (.bool (endsB f way r)) ∧ Below w.heap.size w w' := by
  have he := ends_calls w v f h hm hsm A c way hway hnode hlw _ r hr hrs
  obtain ⟨A0, c0, rfl, _, _, _⟩ := h.form
  generalize endsB f way r = y at *
  have He := Lib.hid he
  clear he h hm hsm hway hnode hr hrs
  go_enter Tryz.func81, Tryz.ntmps81
  go_wp2_with (go_at_call 82; (with_reducible refine (He.out).mono ?_); rintro e w5 ⟨rfl, hb5⟩; have Hb5 := Lib.hid hb5; clear hb5)
  go_ret
  exact ⟨rfl, Hb5.out⟩
set_option maxRecDepth 100000 in
set_option maxHeartbeats 4000000 in
theorem Is_calls (w : World) (v : Value) (f : Fo) (h : RdF w.heap.size w v f) (hm : mayB f = true) (hsm : ∀ n ∈ f, Sm n) (i : Int) (vl : Value) (l : Sel) (hl : RdSel w.heap.size w vl l) (hls : SmS l) :
    Calls Tryz.prog 43 #[v, .int .i64 i, vl] w fun e w' => e = .returned (.bool (isS f i l)) ∧ Below w.heap.size w w' := by
  obtain ⟨w0, hw0⟩ : ∃ w0, w.alloc (.cells #[v] 28) = w0 := ⟨_, rfl⟩
  have hb0 : Below w.heap.size w w0 := by rw [← hw0]; exact (Below.refl _ _).alloc (Nat.le_refl _) _
  have q0 : w0.heap[w.heap.size]? = some (.cells #[v] 28 (0, 0)) := by rw [← hw0]; exact World.alloc_heap_new w _
  have hrd := fun w' (hb : Below w.heap.size w w') => (h.below nodeE_keeps (w' := w') hb (Nat.le_refl _)).mono nodeE_keeps hb.size
  have hrl := fun w' (hb : Below w.heap.size w w') => (hl.below rowE_keeps (w' := w') hb (Nat.le_refl _)).mono rowE_keeps hb.size
  have hc0 := (cell_of_row _ _ 0 _ _ _ q0).trans rfl
  obtain ⟨A0, c0, rfl, hl0, hcc, _⟩ := h.form
  obtain ⟨Al, cl, rfl, _, _, _⟩ := hl.form
  simp only [maxLen] at hcc
  cases hn : isNode f i with
  | false =>
    have hI : isS f i l = false := by unfold isS; rw [hn]; rfl
    rw [hI]
    have hno := Wk.node_no hn
    have Hw0 := Lib.hid hw0; have Hb0 := Lib.hid hb0
    have x0 : w0.cell? ⟨w.heap.size, 0, none⟩ = some (.slice A0 f.length c0) := hc0
    clear hw0 hb0 hrd hrl h hl hls hn hI q0 hc0 hm hsm
    by_cases h0 : i < 0
    · clear hno
      go_enter Tryz.func43, Tryz.ntmps43
      go_upto_region 1 with fail
      rw [Hw0.out]
      go_wp2_with fail
      go_ret
      exact ⟨rfl, Hb0.out⟩
    · have h1 : (f.length : Int) ≤ i := by omega
      clear hno
      go_enter Tryz.func43, Tryz.ntmps43
      go_upto_region 1 with fail
      rw [Hw0.out]
      go_wp2_with fail
      go_ret
      exact ⟨rfl, Hb0.out⟩
  | true =>
    obtain ⟨k, rfl, hk⟩ := node_nat hn
    obtain ⟨N, hN⟩ := may_climbs hm k hk
    have hI : isS f k l = l.any (fun r => endsB f (upL f N k).reverse r) := by unfold isS wayOf; rw [hn, depthOf_up hN]; rfl
    rw [hI]
    have hN1 : 0 < N := by
      rcases Nat.eq_zero_or_pos N with e | e
      · subst e; have : (k : Int) < 0 := hN; omega
      · exact e
    have hN60 := up_len hm hN (by omega)
    have hnode : ∀ x ∈ (upL f N k).reverse, isNode f x = true := fun x hx => upL_node hm N k hN (by omega) x (List.mem_reverse.1 hx)
    have hwl : (upL f N k).reverse.length = N := by rw [List.length_reverse, upL_length]
    have hab := above_calls w0 _ f (hrd w0 hb0) hm k hk N hN
    generalize (upL f N k).reverse = way at *
    have x0 : w0.cell? ⟨w.heap.size, 0, none⟩ = some (.slice A0 f.length c0) := hc0
    have hkI : (k : Int) < (f.length : Int) := by omega
    have hk0 : (0 : Int) ≤ (k : Int) := by omega
    have Hw0 := Lib.hid hw0; have Hb0 := Lib.hid hb0; have Hab := Lib.hid hab; have Hrd := Lib.hid hrd; have Hrl := Lib.hid hrl; have Hq0 := Lib.hid q0; have Hm := Lib.hid hm; have Hsm := Lib.hid hsm; have Hls := Lib.hid hls; have Hnode := Lib.hid hnode; have Hwl := Lib.hid hwl
    clear hw0 hb0 hab hrd hrl h hl hls hn hI q0 hc0 hm hsm hnode hN hwl
    go_enter Tryz.func43, Tryz.ntmps43
    go_upto_region 1 with fail
    rw [Hw0.out]
    go_upto_region 4 with (go_at_call 79; (with_reducible refine (Hab.out).mono ?_); rintro e w5 ⟨A5, c5, rfl, hr5, hb5⟩; have Hr5 := Lib.hid hr5; have Hb5 := Lib.hid hb5; clear hr5 hb5)
    obtain ⟨w6, hw6⟩ : ∃ w6, w5.alloc (.cells #[.slice A5 N c5] 53) = w6 := ⟨_, rfl⟩
    have hb6 : Below w5.heap.size w5 w6 := by rw [← hw6]; exact (Below.refl _ _).alloc (Nat.le_refl _) _
    have q6 : w6.heap[w5.heap.size]? = some (.cells #[.slice A5 N c5] 53 (0, 0)) := by rw [← hw6]; exact World.alloc_heap_new w5 _
    rw [hw6]
    have hcon := ContainsRow_calls w6 _ l (Hrl.out w6 (bthen Hb0.out (bthen Hb5.out hb6))) (fun r => endsB f way r) (.pointer (some ⟨w.heap.size, 0, none⟩)) (.pointer (some ⟨w5.heap.size, 0, none⟩)) (fun w' hb' j hj At ct hr => by
      have hbb := bthen Hb5.out (bthen hb6 hb')
      refine is1_calls w' w.heap.size w5.heap.size _ f A5 c5 way ((cell_of_row _ _ 0 _ _ _ ((hbb.block _ (lt_heap Hq0.out)).trans Hq0.out)).trans rfl) ?_ (Hrd.out w' (bthen Hb0.out hbb)) Hm.out Hsm.out ?_ Hnode.out (by rw [Hwl.out]; exact ⟨hN1, hN60⟩) At ct l[j] hr (fun x hx => Hls.out _ (List.getElem_mem hj) x hx)
      · rw [Hwl.out]; exact (cell_of_row _ _ 0 _ _ _ ((hb'.block _ (lt_heap q6)).trans q6)).trans rfl
      · rw [Hwl.out]; exact (Hr5.out.below (intE_keeps _) (w' := w') (bthen hb6 hb') (Nat.le_refl _)).mono (intE_keeps _) (bthen hb6 hb').size)
    obtain ⟨y, hy⟩ : ∃ y, y = l.any (fun r => endsB f way r) := ⟨_, rfl⟩
    rw [← hy] at hcon
    have Hy := Lib.hid hy
    clear hy
    have Hcon := Lib.hid hcon; have Hb6 := Lib.hid hb6
    clear hcon hb6 hw6 q6 x0
    go_wp2_with (go_at_call 80; (with_reducible refine (Hcon.out).mono ?_); rintro e w7 ⟨rfl, hb7⟩; have Hb7 := Lib.hid hb7; clear hb7)
    go_ret
    exact ⟨ret_bool Hy.out, bthen Hb0.out (bthen Hb5.out (bthen Hb6.out Hb7.out))⟩
end Go.Proofs.YthdenkkllpkplaaGreat.Fn
end
section
/- find: All, First. -/
namespace Go.Proofs.YthdenkkllpkplaaGreat.Fn
open Go Go.RowKit Go.Proofs.YthdenkkllpkplaaGreat.Seq Go.Proofs.YthdenkkllpkplaaGreat.WS Go.Proofs.YthdenkkllpkplaaGreat.FS Go.Proofs.YthdenkkllpkplaaGreat.Mem Go.Proofs.YthdenkkllpkplaaGreat.Rd Go.Proofs.YthdenkkllpkplaaGreat.Shapes Go.Proofs.YthdenkkllpkplaaGreat.Word Go.Proofs.YthdenkkllpkplaaGreat.FFam Go.Proofs.YthdenkkllpkplaaGreat.Work
set_option linter.unusedVariables false
set_option linter.unusedSimpArgs false
noncomputable def allS (f : Fo) (top : Int) (l : Sel) : List Int := (Wk.orderL f top).filter (fun i => isS f i l)
theorem filt_succ {l : List Int} {p : Int → Bool} {k : Nat} (hk : k < l.length) : (l.take (k + 1)).filter p = (l.take k).filter p ++ if p l[k] = true then [l[k]] else [] := by
  rw [List.take_succ_eq_append_getElem hk, List.filter_append]
  by_cases h : p l[k] = true
  · rw [if_pos h, List.filter_cons_of_pos h]; rfl
  · rw [if_neg h, List.filter_cons_of_neg h]; rfl
theorem filt_le (l : List Int) (p : Int → Bool) (k : Nat) : ((l.take k).filter p).length ≤ k := Nat.le_trans (List.length_filter_le _ _) (by rw [List.length_take]; omega)
theorem orderL_len {f : Fo} (hm : mayB f = true) (i : Int) : (Wk.orderL f i).length ≤ 60 := by
  unfold Wk.orderL
  split
  · rename_i h
    have := order_len (may_family hm) (may_climbs hm) h
    have := (may_len hm).2
    omega
  · simp
set_option maxRecDepth 100000 in
set_option maxHeartbeats 4000000 in
theorem All_calls (w : World) (v : Value) (f : Fo) (h : RdF w.heap.size w v f) (hm : mayB f = true) (hsm : ∀ n ∈ f, Sm n) (top : Int) (hwi : (Lit.int .i64 top).wf = true) (vl : Value) (l : Sel) (hl : RdSel w.heap.size w vl l) (hls : SmS l) :
    Calls Tryz.prog 37 #[v, .int .i64 top, vl] w fun e w' => ∃ u, e = .returned u ∧ RdL (intE .i64) 1 w'.heap.size w' u (allS f top l) ∧ Below w.heap.size w w' := by
  have hor := Wk.Order_calls w v f h hm top hwi
  unfold Wk.OrderPost at hor
  have hol := orderL_len hm top
  have his := fun w' (hb : Below w.heap.size w w') (i : Int) => Is_calls w' v f ((h.below nodeE_keeps (w' := w') hb (Nat.le_refl _)).mono nodeE_keeps hb.size) hm hsm i vl l ((hl.below rowE_keeps (w' := w') hb (Nat.le_refl _)).mono rowE_keeps hb.size) hls
  obtain ⟨A0, c0, rfl, _, _, _⟩ := h.form
  obtain ⟨Al, cl, rfl, _, _, _⟩ := hl.form
  unfold allS
  obtain ⟨p, hp⟩ : ∃ p : Int → Bool, p = fun i => isS f i l := ⟨_, rfl⟩
  have hpi : ∀ i, isS f i l = p i := fun i => by rw [hp]
  simp only [hpi] at his
  rw [← hp]
  generalize Wk.nodeErr f top = er at *
  generalize Wk.orderL f top = O at *
  have Hor := Lib.hid hor; have His := Lib.hid his
  clear hor his h hm hsm hl hls hp hpi
  go_enter Tryz.func37, Tryz.ntmps37
  go_upto_region 2 with (go_at_call 48; (with_reducible refine (Hor.out).mono ?_); rintro e w5 ⟨v5, rfl, hr5, hb5⟩; have Hr5 := Lib.hid hr5; have Hb5 := Lib.hid hb5; clear hr5 hb5)
  obtain ⟨A5, c5, rfl, l5, m5, _⟩ := Hr5.out.form
  simp only [maxLen] at m5
  go_wp2_with fail
  go_loopw [6, 19] (fun u i wr => ∃ k : Nat, k ≤ O.length ∧ i = .int .i64 k ∧ Hid (wr.ownsRow w5.heap.size 3 1 u ((O.take k).filter p).length (((O.take k).filter p).map (Value.int .i64))) ∧ Hid (Below w5.heap.size w5 wr)) (fun _ i _ => O.length - (intOf i).toNat)
  case atStart => exact ⟨0, Nat.zero_le _, rfl, Lib.hid (World.ownsRow_nil _ _ _ _), Lib.hid (Below.refl _ _)⟩
  case round =>
    obtain ⟨k, hk, rfl, hrow, hb⟩ := hrel
    obtain ⟨Ar, cr, rfl⟩ := LShown.slice_of hrow.out
    by_cases hlt : k < O.length
    · obtain ⟨b, o, rfl, _, g0, gw⟩ := intE_at (Hr5.out.below (intE_keeps _) (w' := wr) hb.out (Nat.le_refl _)) hlt
      have hts := filt_succ (p := p) hlt
      have htl := filt_le O p k
      have hc := His.out wr (bthen Hb5.out hb.out) O[k]
      have hr5 := Hr5
      generalize O[k] = x at *
      cases hx : p x with
      | false =>
        rw [hx] at hc
        rw [hx, if_neg (by decide), List.append_nil] at hts
        have Hts := Lib.hid hts; have Hc := Lib.hid hc
        clear hts hc hx gw
        go_wp2_with (go_at_call 43; (with_reducible refine (Hc.out).mono ?_); rintro e w6 ⟨rfl, hb6⟩; have Hb6 := Lib.hid hb6; clear hb6)
        go_roundw
        case rel => exact ⟨k + 1, by omega, by go_num, Lib.hid (by rw [Hts.out]; exact own_keep hrow.out (fun g hg => Hb6.out.block g (hrow.out.lt g hg).2)), Lib.hid (bthen hb.out Hb6.out)⟩
        case measure => simp [intOf]; omega
      | true =>
        rw [hx] at hc
        rw [hx, if_pos rfl] at hts
        have Hts := Lib.hid hts; have Hc := Lib.hid hc
        clear hts hc hx gw
        go_wp2_with (first | (go_at_call 43; (with_reducible refine (Hc.out).mono ?_); rintro e w6 ⟨rfl, hb6⟩; have Hb6 := Lib.hid hb6; have hrow6 : w6.ownsRow w5.heap.size 3 1 (.slice Ar ((O.take k).filter p).length cr) (((O.take k).filter p).map (Value.int .i64)).length (((O.take k).filter p).map (Value.int .i64)) := (by rw [List.length_map]; exact own_keep hrow.out (fun g hg => hb6.block g (hrow.out.lt g hg).2)); have Hrow6 := Lib.hid hrow6; have HB6 := Lib.hid (bthen hb.out hb6); clear hb6 hrow6) | (at_builtin; go_loud (refine Mem.pl_append _ w5.heap.size rfl _ _ 53 3 (.int .i64 0) 8 rfl Tryz.underlying53 info_int rfl (.slice Ar ((O.take k).filter p).length cr) (((O.take k).filter p).map (Value.int .i64)) (.int .i64 x) rfl (by simp [Act.eval]) rfl Hrow6.out HB6.out.size (by rw [List.length_map]; omega) (by rw [List.length_map]; simp [maxLen]; omega) ?_); rintro v7 w7 hown7 hgrow7 ⟨g7, cap7, rfl, hat⟩; have Hown7 := Lib.hid hown7; have Hgrow7 := Lib.hid hgrow7; clear hown7 hgrow7 hat))
        go_roundw
        case rel =>
          refine ⟨k + 1, by omega, by go_num, Lib.hid ?_, Lib.hid (FTops.grown_below HB6.out Hgrow7.out Hrow6.out (Nat.le_refl _))⟩
          have h9 := Hown7.out
          rw [show ((O.take k).filter p).map (Value.int .i64) ++ [Value.int .i64 x] = ((O.take (k + 1)).filter p).map (Value.int .i64) by rw [Hts.out, List.map_append]; rfl, List.length_map] at h9
          simpa only [List.length_map] using h9
        case measure => simp [intOf]; omega
    · obtain rfl : k = O.length := by omega
      have hrow' := hrow.out
      rw [List.take_length] at hrow'
      have hwf : ∀ y ∈ O, (Lit.int .i64 y).wf = true := fun y hy => by
        obtain ⟨j, hj, rfl⟩ := List.mem_iff_getElem.1 hy
        obtain ⟨_, _, _, _, _, h9⟩ := intE_at Hr5.out hj
        exact h9
      have Hrow := Lib.hid hrow'; have Hwf := Lib.hid hwf
      clear hrow' hlt hrow hwf
      try rw [List.take_length]
      go_wp2_with fail
      go_ret
      refine ⟨_, rfl, RdL.of_own Hrow.out rfl (fun g hg => (Hrow.out.lt g hg).2) (fun i hi => ⟨?_, Hwf.out _ (List.mem_filter.1 (List.getElem_mem hi)).1⟩), bthen Hb5.out hb.out⟩
      rw [Nat.mul_one, List.drop_eq_getElem_cons (by simpa using hi)]
      simp
def firstS (o : Option Int) : Int × Bool := match o with | some x => (x, true) | none => (0, false)
theorem ret_ib {a c : Int} {b d : Bool} (h : a = c) (k : b = d) : Ending.returned (.tuple #[.int .i64 a, .bool b]) = .returned (.tuple #[.int .i64 c, .bool d]) := by rw [h, k]
theorem first1_calls (w : World) (bf bl : Nat) (v vl : Value) (f : Fo) (l : Sel) (hbf : w.cell? ⟨bf, 0, none⟩ = some v) (hbl : w.cell? ⟨bl, 0, none⟩ = some vl) (h : RdF w.heap.size w v f) (hm : mayB f = true) (hsm : ∀ n ∈ f, Sm n) (hl : RdSel w.heap.size w vl l) (hls : SmS l) (i : Int) :
    Calls Tryz.prog 77 #[.int .i64 i, .pointer (some ⟨bf, 0, none⟩), .pointer (some ⟨bl, 0, none⟩)] w fun e w' => e = .returned (.bool (isS f i l)) ∧ Below w.heap.size w w' := by
  have he := Is_calls w v f h hm hsm i vl l hl hls
  obtain ⟨A0, c0, rfl, _, _, _⟩ := h.form
  obtain ⟨Al, cl, rfl, _, _, _⟩ := hl.form
  generalize isS f i l = y at *
  have He := Lib.hid he
  clear he h hm hsm hl hls
  go_enter Tryz.func77, Tryz.ntmps77
  go_wp2_with (go_at_call 43; (with_reducible refine (He.out).mono ?_); rintro e w5 ⟨rfl, hb5⟩; have Hb5 := Lib.hid hb5; clear hb5)
  go_ret
  exact ⟨rfl, Hb5.out⟩
set_option maxRecDepth 100000 in
set_option maxHeartbeats 4000000 in
theorem First_calls (w : World) (v : Value) (f : Fo) (h : RdF w.heap.size w v f) (hm : mayB f = true) (hsm : ∀ n ∈ f, Sm n) (top : Int) (hwi : (Lit.int .i64 top).wf = true) (vl : Value) (l : Sel) (hl : RdSel w.heap.size w vl l) (hls : SmS l) :
    Calls Tryz.prog 38 #[v, .int .i64 top, vl] w fun e w' => e = .returned (.tuple #[.int .i64 (firstS ((Wk.orderL f top).find? (fun i => isS f i l))).1, .bool (firstS ((Wk.orderL f top).find? (fun i => isS f i l))).2]) ∧ Below w.heap.size w w' := by
  obtain ⟨w0, hw0⟩ : ∃ w0, (w.alloc (.cells #[v] 28)).alloc (.cells #[vl] 63) = w0 := ⟨_, rfl⟩
  have hb0 : Below w.heap.size w w0 := by rw [← hw0]; exact ((Below.refl _ _).alloc (Nat.le_refl _) _).alloc (by simp) _
  have q0 : w0.heap[w.heap.size]? = some (.cells #[v] 28 (0, 0)) := by rw [← hw0]; exact heap_old (World.alloc_heap_new w _)
  have q1 : w0.heap[w.heap.size + 1]? = some (.cells #[vl] 63 (0, 0)) := by rw [← hw0]; exact heap_new (by simp)
  have hrd := fun w' (hb : Below w.heap.size w w') => (h.below nodeE_keeps (w' := w') hb (Nat.le_refl _)).mono nodeE_keeps hb.size
  have hrl := fun w' (hb : Below w.heap.size w w') => (hl.below rowE_keeps (w' := w') hb (Nat.le_refl _)).mono rowE_keeps hb.size
  have hor := Wk.Order_calls w0 v f (hrd w0 hb0) hm top hwi
  unfold Wk.OrderPost at hor
  have hol := orderL_len hm top
  have hcl := fun w' (hb : Below w0.heap.size w0 w') (i : Int) => first1_calls w' w.heap.size (w.heap.size + 1) v vl f l ((cell_of_row _ _ 0 _ _ _ ((hb.block _ (lt_heap q0)).trans q0)).trans rfl) ((cell_of_row _ _ 0 _ _ _ ((hb.block _ (lt_heap q1)).trans q1)).trans rfl) (hrd w' (bthen hb0 hb)) hm hsm (hrl w' (bthen hb0 hb)) hls i
  have x0 : w0.cell? ⟨w.heap.size, 0, none⟩ = some v := (cell_of_row _ _ 0 _ _ _ q0).trans rfl
  obtain ⟨A0, c0, rfl, _, _, _⟩ := h.form
  obtain ⟨Al, cl, rfl, _, _, _⟩ := hl.form
  obtain ⟨p, hp⟩ : ∃ p : Int → Bool, p = fun i => isS f i l := ⟨_, rfl⟩
  have hpi : ∀ i, isS f i l = p i := fun i => by rw [hp]
  simp only [hpi] at hcl
  rw [← hp]
  generalize Wk.nodeErr f top = er at *
  generalize Wk.orderL f top = O at *
  have Hor := Lib.hid hor; have Hcl := Lib.hid hcl; have Hw0 := Lib.hid hw0; have Hb0 := Lib.hid hb0
  clear hor hcl hw0 hb0 hrd hrl h hl hm hsm hls q0 q1 hp hpi
  go_enter Tryz.func38, Tryz.ntmps38
  go_upto_region 1 with fail
  rw [Hw0.out]
  go_upto_region 2 with (go_at_call 48; (with_reducible refine (Hor.out).mono ?_); rintro e w5 ⟨v5, rfl, hr5, hb5⟩; have Hr5 := Lib.hid hr5; have Hb5 := Lib.hid hb5; clear hr5 hb5)
  obtain ⟨A5, c5, rfl, l5, m5, _⟩ := Hr5.out.form
  simp only [maxLen] at m5
  have hix := IndexInt_calls w5 _ O Hr5.out p (.pointer (some ⟨w.heap.size, 0, none⟩)) (.pointer (some ⟨w.heap.size + 1, 0, none⟩)) (fun w' hb i hi _ => Hcl.out w' (bthen Hb5.out hb) O[i])
  cases hfi : O.findIdx? p with
  | none =>
    have hix0 : idxP O p = -1 := by unfold idxP; rw [hfi]
    have hfo : O.find? p = none := by
      rw [List.findIdx?_eq_none_iff] at hfi
      rw [List.find?_eq_none]
      intro x hx
      simpa using hfi x hx
    rw [hix0] at hix
    have Hix := Lib.hid hix; have Hfo := Lib.hid hfo
    clear hix hfi hix0 hfo
    go_wp2_with (go_at_call 76; (with_reducible refine (Hix.out).mono ?_); rintro e w6 ⟨rfl, hb6⟩; have Hb6 := Lib.hid hb6; clear hb6)
    go_ret2
    exact ⟨ret_ib (by rw [Hfo.out]; rfl) (by rw [Hfo.out]; rfl), bthen Hb0.out (bthen Hb5.out Hb6.out)⟩
  | some j =>
    have hix0 : idxP O p = (j : Int) := by unfold idxP; rw [hfi]
    obtain ⟨hj, hjp, hjn⟩ := List.findIdx?_eq_some_iff_getElem.1 hfi
    have hfo : O.find? p = some O[j] := by
      rw [List.find?_eq_some_iff_getElem]
      exact ⟨hjp, j, hj, rfl, fun k hk => by simpa using hjn k hk⟩
    rw [hix0] at hix
    have hat := fun w' (hb : Below w5.heap.size w5 w') => intE_at (Hr5.out.below (intE_keeps _) (w' := w') hb (Nat.le_refl _)) hj
    obtain ⟨b2, o2, rfl, _, _, _⟩ := hat w5 (Below.refl _ _)
    have hat2 : ∀ w', Below w5.heap.size w5 w' → w'.cell? ⟨b2, o2 + j, none⟩ = some (.int .i64 O[j]) := fun w' hb => by
      obtain ⟨b3, o3, e3, _, q, _⟩ := hat w' hb
      injection e3 with e3
      injection e3 with e3 e4 _
      rw [e3, e4]
      exact q
    have hj0 : decide ((j : Int) < 0) = false := by simp
    have hjl : (j : Int) < (O.length : Int) := by omega
    have Hix := Lib.hid hix; have Hfo := Lib.hid hfo; have Hat := Lib.hid hat2
    clear hix hfi hix0 hfo hat hat2 hjp hjn
    generalize O[j] = x at *
    go_wp2_with (go_at_call 76; (with_reducible refine (Hix.out).mono ?_); rintro e w6 ⟨rfl, hb6⟩; have p6 := Hat.out _ hb6; have Hb6 := Lib.hid hb6; clear hb6)
    go_ret2
    exact ⟨ret_ib (by rw [Hfo.out]; rfl) (by rw [Hfo.out]; rfl), bthen Hb0.out (bthen Hb5.out Hb6.out)⟩
end Go.Proofs.YthdenkkllpkplaaGreat.Fn
end
section
/- What sel.Parse yields, read as a selector; its sizes. -/
namespace Go.Proofs.YthdenkkllpkplaaGreat.Pa
open Go Go.RowKit Go.Proofs.YthdenkkllpkplaaGreat.Seq Go.Proofs.YthdenkkllpkplaaGreat.WS Go.Proofs.YthdenkkllpkplaaGreat.FS Go.Proofs.YthdenkkllpkplaaGreat.Mem Go.Proofs.YthdenkkllpkplaaGreat.Rd Go.Proofs.YthdenkkllpkplaaGreat.Shapes Go.Proofs.YthdenkkllpkplaaGreat.Word Go.Proofs.YthdenkkllpkplaaGreat.FFam Go.Proofs.YthdenkkllpkplaaGreat.Work Go.Proofs.YthdenkkllpkplaaGreat.Fn Go.Proofs.YthdenkkllpkplaaGreat.OwnF
set_option linter.unusedVariables false
set_option linter.unusedSimpArgs false
theorem rdL_of {α : Type} {E : ElS α} {E' : Elem α} {sz : Nat} {S : Nat → Prop} {w : World} {v : Value} {l : List α} (h : RdE E sz S w v l) (he : ∀ cs x, E S w cs x → E' w.heap.size w cs x) : RdL E' sz w.heap.size w v l := by
  obtain ⟨A, c, hv, h1, h2, h3⟩ := h
  refine ⟨A, c, hv, h1, h2, fun h0 => ?_⟩
  obtain ⟨b, o, e, _, hlt, hc⟩ := h3 h0
  exact ⟨b, o, e, hlt, fun i hi => by
    obtain ⟨cs, h4, h5, h6⟩ := hc i hi
    exact ⟨cs, h4, h5, he _ _ h6⟩⟩
theorem test_of {S : Nat → Prop} {w : World} {cs : List Value} {t : Tst} (h : testS S w cs t) : testE w.heap.size w cs t :=
  ⟨h.1, Nat.le_trans h.2.1 (by decide), Nat.le_trans h.2.2.1 (by decide), h.2.2.2⟩
theorem step_of {S : Nat → Prop} {w : World} {cs : List Value} {x : Stp} (h : stepS S w cs x) : stepE w.heap.size w cs x := by
  obtain ⟨v, h1, h2⟩ := h
  exact ⟨v, h1, rdL_of h2 (fun _ _ => test_of)⟩
theorem row_of {S : Nat → Prop} {w : World} {cs : List Value} {x : Sro} (h : rowS S w cs x) : rowE w.heap.size w cs x := by
  obtain ⟨v, h1, h2⟩ := h
  exact ⟨v, h1, rdL_of h2 (fun _ _ => step_of)⟩
theorem sel_of {S : Nat → Prop} {w : World} {v : Value} {l : Sel} (h : RdE rowS 1 S w v l) : RdSel w.heap.size w v l := rdL_of h (fun _ _ => row_of)
theorem row_sm_loop {s : ByteArray} : ∀ (n : Nat) (l : Sro) (c : Bool) (b : Nat) {x : Sro × Nat}, rowLoop s n l c b = .ok x → b ≤ s.size → (∀ y ∈ l, SmT y.c) → ∀ y ∈ x.1, SmT y.c
  | 0, l, c, b, x, h, _, _ => by rw [rowLoop] at h; cases h
  | n + 1, l, c, b, x, h, hb, hl => by
    rw [rowLoop] at h
    cases hN : compoundP s b with
    | error e => rw [hN] at h; cases h
    | ok y =>
      rw [hN] at h
      have ho := compound_ok hN hb
      have he := end_le (s := s) (p := blkB) (a := y.2) ho.2.1
      have happ : ∀ z ∈ l ++ [{ c := y.1, child := c }], SmT z.c := fun z hz => by
        rw [List.mem_append, List.mem_singleton] at hz
        rcases hz with hz | rfl
        · exact hl z hz
        · exact ho.2.2
      simp only at h
      split at h
      · injection h with h
        subst h
        exact happ
      · split at h
        · rename_i ht
          have hlt := (took_lt ht).1
          have he3 := end_le (s := s) (p := blkB) (a := endOf s blkB y.2 + 1) (by omega)
          exact row_sm_loop n _ _ _ h he3.2 happ
        · split at h
          · exact row_sm_loop n _ _ _ h he.2 happ
          · cases h
theorem row_sm {s : ByteArray} {a : Nat} {x : Sro × Nat} (h : rowP s a = .ok x) (ha : a ≤ s.size) : ∀ y ∈ x.1, SmT y.c := by
  unfold rowP at h
  have he := end_le (s := s) (p := blkB) (a := a) ha
  exact row_sm_loop _ _ _ _ h he.2 (fun y hy => by cases hy)
theorem parse_sm_loop {s : ByteArray} : ∀ (n : Nat) (l : Sel) (a : Nat) {x : Sel}, parseLoop s n l a = .ok x → a ≤ s.size → (∀ r ∈ l, ∀ y ∈ r, SmT y.c) → ∀ r ∈ x, ∀ y ∈ r, SmT y.c
  | 0, l, a, x, h, _, _ => by rw [parseLoop] at h; cases h
  | n + 1, l, a, x, h, ha, hl => by
    rw [parseLoop] at h
    cases hN : rowP s a with
    | error e => rw [hN] at h; cases h
    | ok y =>
      rw [hN] at h
      have ho := row_ok hN ha
      have happ : ∀ r ∈ l ++ [y.1], ∀ z ∈ r, SmT z.c := fun r hr => by
        rw [List.mem_append, List.mem_singleton] at hr
        rcases hr with hr | rfl
        · exact hl r hr
        · exact row_sm hN ha
      simp only at h
      split at h
      · rename_i ht
        have hlt := (took_lt ht).1
        exact parse_sm_loop n _ _ h (by omega) happ
      · injection h with h
        subst h
        exact happ
theorem parse_sm {s : ByteArray} {l : Sel} (h : parseP s = .ok l) : (∀ r ∈ l, ∀ y ∈ r, SmT y.c) ∧ SmS l := by
  have hs := parse_sm_loop _ _ _ h (Nat.zero_le _) (fun r hr => by cases hr)
  exact ⟨hs, fun r hr y hy t ht => Nat.le_trans (hs r hr y hy t ht).1 (by decide)⟩
/-- The demo of shown: "a .y, a > c". -/
def demoT : ByteArray := ⟨#[97, 32, 46, 121, 44, 32, 97, 32, 62, 32, 99]⟩
def demoL : Sel := [[{ c := [{ kind := 1, name := ⟨#[97]⟩ }], child := false }, { c := [{ kind := 3, name := ⟨#[121]⟩ }], child := false }], [{ c := [{ kind := 1, name := ⟨#[97]⟩ }], child := false }, { c := [{ kind := 1, name := ⟨#[99]⟩ }], child := true }]]
theorem demo_parse : parseP demoT = .ok demoL := by kernel_rfl
end Go.Proofs.YthdenkkllpkplaaGreat.Pa
end
section
/- The forest that the law's first lines show. No program. -/
namespace Go.Proofs.YthdenkkllpkplaaGreat.FS
open Go.Proofs.YthdenkkllpkplaaGreat.WS
set_option linter.unusedVariables false
def demoF : Fo := [⟨0, ⟨#[]⟩, ⟨#[]⟩, [], -1, [1]⟩, ⟨1, ⟨#[100, 105, 118]⟩, ⟨#[]⟩, [], 0, [2]⟩, ⟨2, ⟨#[]⟩, ⟨#[120, 60]⟩, [], 1, []⟩]
theorem demo_family : familyB demoF = true := by decide
theorem demo_climbs : climbsP demoF := by
  intro i hi
  have h3 : i < 3 := hi
  match i, h3 with
  | 0, _ => exact ⟨1, by simp only [Up]; decide⟩
  | 1, _ => exact ⟨2, by simp only [Up]; decide⟩
  | 2, _ => exact ⟨3, by simp only [Up]; decide⟩
theorem demo_may : mayB demoF = true := by
  unfold mayB
  rw [demo_family, climbs_true demo_climbs]
  decide
theorem demo_below : belowB demoF 0 2 = true := below_eq demo_may (by decide) ⟨fun _ => rfl, fun _ => ⟨by decide, 2, by simp only [Reach]; decide⟩⟩
theorem demo_tops : (topsL demoF).length = 1 := by decide
theorem demo_print : printF demoF 0 = [60, 100, 105, 118, 62, 120, 38, 108, 116, 59, 60, 47, 100, 105, 118, 62] := by
  unfold printF
  rw [if_pos ⟨demo_may, by decide⟩, printL_eq demo_family demo_climbs (by decide)]
  rw [show (at_ demoF 0).kids = [1] by decide, List.flatMap_cons, List.flatMap_nil, printL_eq demo_family demo_climbs (by decide)]
  rw [show (at_ demoF 1).kids = [2] by decide, List.flatMap_cons, List.flatMap_nil, printL_eq demo_family demo_climbs (by decide)]
  rw [show (at_ demoF 2).kids = [] by decide, List.flatMap_nil]
  decide
end Go.Proofs.YthdenkkllpkplaaGreat.FS
end
section
/- The forest that treillagelaw08 shows. No program. -/
namespace Go.Proofs.YthdenkkllpkplaaGreat.FS
open Go.Proofs.YthdenkkllpkplaaGreat.WS
set_option linter.unusedVariables false
def dOps : List Opn := [{ kind := 1, name := ⟨#[97]⟩ }, { kind := 4, id := 1 }, { kind := 2, text := ⟨#[120]⟩ }, { kind := 4, id := 2, «to» := 1 }, { kind := 6, id := 1, name := ⟨#[105, 100]⟩, text := ⟨#[107]⟩ }]
def d1 : Fo := [⟨0, ⟨#[]⟩, ⟨#[]⟩, [], -1, []⟩, ⟨1, ⟨#[97]⟩, ⟨#[]⟩, [], -1, []⟩]
def d2 : Fo := [⟨0, ⟨#[]⟩, ⟨#[]⟩, [], -1, [1]⟩, ⟨1, ⟨#[97]⟩, ⟨#[]⟩, [], 0, []⟩]
def d3 : Fo := [⟨0, ⟨#[]⟩, ⟨#[]⟩, [], -1, [1]⟩, ⟨1, ⟨#[97]⟩, ⟨#[]⟩, [], 0, []⟩, ⟨2, ⟨#[]⟩, ⟨#[120]⟩, [], -1, []⟩]
def d4 : Fo := [⟨0, ⟨#[]⟩, ⟨#[]⟩, [], -1, [1]⟩, ⟨1, ⟨#[97]⟩, ⟨#[]⟩, [], 0, [2]⟩, ⟨2, ⟨#[]⟩, ⟨#[120]⟩, [], 1, []⟩]
def d5 : Fo := [⟨0, ⟨#[]⟩, ⟨#[]⟩, [], -1, [1]⟩, ⟨1, ⟨#[97]⟩, ⟨#[]⟩, [⟨⟨#[105, 100]⟩, ⟨#[107]⟩⟩], 0, [2]⟩, ⟨2, ⟨#[]⟩, ⟨#[120]⟩, [], 1, []⟩]
theorem one_do {f g : Fo} {o : Opn} (h : oneE f o = 0) (hd : doF f o = g) : oneF f o = g := by unfold oneF; rw [if_pos h, hd]
theorem e1 : oneF newFo { kind := 1, name := ⟨#[97]⟩ } = d1 := one_do (by
  unfold oneE checks
  rw [if_pos (by decide), if_pos rfl]
  decide) (by decide)
theorem m1 : mayB d1 = true := by rw [← e1]; exact one_may new_may _
theorem b1 : belowB d1 1 0 = false := below_eq m1 (by decide) ⟨fun h => by
  rw [belowP_step (by decide) (by decide)] at h
  exact absurd h (belowP_end (by decide)), fun h => by cases h⟩
theorem e2 : oneF d1 { kind := 4, id := 1 } = d2 := one_do (by
  unfold oneE checks
  rw [if_pos (by decide), if_neg (by decide), if_neg (by decide), if_pos rfl]
  simp only [b1]
  decide) (by decide)
theorem m2 : mayB d2 = true := by rw [← e2]; exact one_may m1 _
theorem e3 : oneF d2 { kind := 2, text := ⟨#[120]⟩ } = d3 := one_do (by
  unfold oneE checks
  rw [if_pos (by decide), if_neg (by decide), if_pos (by decide)]
  decide) (by decide)
theorem m3 : mayB d3 = true := by rw [← e3]; exact one_may m2 _
theorem b3 : belowB d3 2 1 = false := below_eq m3 (by decide) ⟨fun h => by
  rw [belowP_step (by decide) (by decide), show (at_ d3 1).parent = 0 by decide, belowP_step (by decide) (by decide)] at h
  exact absurd h (belowP_end (by decide)), fun h => by cases h⟩
theorem e4 : oneF d3 { kind := 4, id := 2, «to» := 1 } = d4 := one_do (by
  unfold oneE checks
  rw [if_pos (by decide), if_neg (by decide), if_neg (by decide), if_pos rfl]
  simp only [b3]
  decide) (by decide)
theorem m4 : mayB d4 = true := by rw [← e4]; exact one_may m3 _
theorem e5 : oneF d4 { kind := 6, id := 1, name := ⟨#[105, 100]⟩, text := ⟨#[107]⟩ } = d5 := one_do (by
  unfold oneE checks
  rw [if_pos (by decide), if_neg (by decide), if_neg (by decide), if_neg (by decide), if_neg (by decide), if_pos rfl]
  decide) (by decide)
theorem m5 : mayB d5 = true := by rw [← e5]; exact one_may m4 _
theorem d_grow : dOps.foldl oneF newFo = d5 := by
  show oneF (oneF (oneF (oneF (oneF newFo _) _) _) _) _ = d5
  rw [e1, e2, e3, e4, e5]
theorem d_node {i : Int} (h : isNode d5 i = true) : order d5 i = i :: (at_ d5 i).kids.flatMap (order d5) := order_eq (may_is m5).fam (may_is m5).climb h
theorem d_order : order d5 0 = [0, 1, 2] := by
  rw [d_node (by decide), show (at_ d5 0).kids = [1] by decide, List.flatMap_cons, List.flatMap_nil, d_node (by decide), show (at_ d5 1).kids = [2] by decide, List.flatMap_cons, List.flatMap_nil, d_node (by decide), show (at_ d5 2).kids = [] by decide]
  rfl
theorem d_content : contentL d5 0 = [120] := by
  unfold contentL
  rw [d_order]
  decide
theorem d_byId : byId d5 ⟨#[107]⟩ = some 1 := by
  unfold byId
  rw [d_order]
  decide
theorem d_parent : parentE d5 2 = (1, 0) := by decide
end Go.Proofs.YthdenkkllpkplaaGreat.FS
end
section
/- The forest that treillagelaw10 shows. -/
namespace Go.Proofs.YthdenkkllpkplaaGreat.Fi
open Go Go.RowKit Go.Proofs.YthdenkkllpkplaaGreat.WS Go.Proofs.YthdenkkllpkplaaGreat.FS Go.Proofs.YthdenkkllpkplaaGreat.Fn Go.Proofs.YthdenkkllpkplaaGreat.Pa
set_option linter.unusedVariables false
def fOps : List Opn := [{ kind := 1, name := ⟨#[65]⟩ }, { kind := 4, id := 1 }, { kind := 1, name := ⟨#[98]⟩ }, { kind := 4, id := 2, «to» := 1 }, { kind := 6, id := 2, name := ⟨#[99, 108, 97, 115, 115]⟩, text := ⟨#[120, 32, 121]⟩ }]
def g1 : Fo := [⟨0, ⟨#[]⟩, ⟨#[]⟩, [], -1, []⟩, ⟨1, ⟨#[65]⟩, ⟨#[]⟩, [], -1, []⟩]
def g2 : Fo := [⟨0, ⟨#[]⟩, ⟨#[]⟩, [], -1, [1]⟩, ⟨1, ⟨#[65]⟩, ⟨#[]⟩, [], 0, []⟩]
def g3 : Fo := [⟨0, ⟨#[]⟩, ⟨#[]⟩, [], -1, [1]⟩, ⟨1, ⟨#[65]⟩, ⟨#[]⟩, [], 0, []⟩, ⟨1, ⟨#[98]⟩, ⟨#[]⟩, [], -1, []⟩]
def g4 : Fo := [⟨0, ⟨#[]⟩, ⟨#[]⟩, [], -1, [1]⟩, ⟨1, ⟨#[65]⟩, ⟨#[]⟩, [], 0, [2]⟩, ⟨1, ⟨#[98]⟩, ⟨#[]⟩, [], 1, []⟩]
def g5 : Fo := [⟨0, ⟨#[]⟩, ⟨#[]⟩, [], -1, [1]⟩, ⟨1, ⟨#[65]⟩, ⟨#[]⟩, [], 0, [2]⟩, ⟨1, ⟨#[98]⟩, ⟨#[]⟩, [⟨⟨#[99, 108, 97, 115, 115]⟩, ⟨#[120, 32, 121]⟩⟩], 1, []⟩]
theorem k1 : oneF newFo { kind := 1, name := ⟨#[65]⟩ } = g1 := one_do (by
  unfold oneE checks
  rw [if_pos (by decide), if_pos rfl]
  decide) (by decide)
theorem n1 : mayB g1 = true := by rw [← k1]; exact one_may new_may _
theorem h1 : belowB g1 1 0 = false := below_eq n1 (by decide) ⟨fun h => by
  rw [belowP_step (by decide) (by decide)] at h
  exact absurd h (belowP_end (by decide)), fun h => by cases h⟩
theorem k2 : oneF g1 { kind := 4, id := 1 } = g2 := one_do (by
  unfold oneE checks
  rw [if_pos (by decide), if_neg (by decide), if_neg (by decide), if_pos rfl]
  simp only [h1]
  decide) (by decide)
theorem n2 : mayB g2 = true := by rw [← k2]; exact one_may n1 _
theorem k3 : oneF g2 { kind := 1, name := ⟨#[98]⟩ } = g3 := one_do (by
  unfold oneE checks
  rw [if_pos (by decide), if_pos rfl]
  decide) (by decide)
theorem n3 : mayB g3 = true := by rw [← k3]; exact one_may n2 _
theorem h3 : belowB g3 2 1 = false := below_eq n3 (by decide) ⟨fun h => by
  rw [belowP_step (by decide) (by decide), show (at_ g3 1).parent = 0 by decide, belowP_step (by decide) (by decide)] at h
  exact absurd h (belowP_end (by decide)), fun h => by cases h⟩
theorem k4 : oneF g3 { kind := 4, id := 2, «to» := 1 } = g4 := one_do (by
  unfold oneE checks
  rw [if_pos (by decide), if_neg (by decide), if_neg (by decide), if_pos rfl]
  simp only [h3]
  decide) (by decide)
theorem n4 : mayB g4 = true := by rw [← k4]; exact one_may n3 _
theorem k5 : oneF g4 { kind := 6, id := 2, name := ⟨#[99, 108, 97, 115, 115]⟩, text := ⟨#[120, 32, 121]⟩ } = g5 := one_do (by
  unfold oneE checks
  rw [if_pos (by decide), if_neg (by decide), if_neg (by decide), if_neg (by decide), if_neg (by decide), if_pos rfl]
  decide) (by decide)
theorem n5 : mayB g5 = true := by rw [← k5]; exact one_may n4 _
theorem g_grow : fOps.foldl oneF newFo = g5 := by
  show oneF (oneF (oneF (oneF (oneF newFo _) _) _) _) _ = g5
  rw [k1, k2, k3, k4, k5]
theorem g_node {i : Int} (h : isNode g5 i = true) : order g5 i = i :: (at_ g5 i).kids.flatMap (order g5) := order_eq (may_is n5).fam (may_is n5).climb h
theorem g_order2 : order g5 2 = [2] := by
  rw [g_node (by decide), show (at_ g5 2).kids = [] by decide]
  rfl
theorem g_order : order g5 0 = [0, 1, 2] := by
  rw [g_node (by decide), show (at_ g5 0).kids = [1] by decide, List.flatMap_cons, List.flatMap_nil, g_node (by decide), show (at_ g5 1).kids = [2] by decide, List.flatMap_cons, List.flatMap_nil, g_order2]
  rfl
theorem g_up2 : Up g5 3 2 := by simp only [Up]; decide
theorem g_up1 : Up g5 2 1 := by simp only [Up]; decide
theorem g_up0 : Up g5 1 0 := by simp only [Up]; decide
theorem g_is2 : isS g5 2 demoL = true := by
  unfold isS wayOf
  rw [depthOf_up g_up2]
  kernel_rfl
theorem g_is1 : isS g5 1 demoL = false := by
  unfold isS wayOf
  rw [depthOf_up g_up1]
  kernel_rfl
theorem g_is0 : isS g5 0 demoL = false := by
  unfold isS wayOf
  rw [depthOf_up g_up0]
  kernel_rfl
theorem g_all : allS g5 0 demoL = [2] := by
  unfold allS Wk.orderL
  rw [if_pos (by decide), g_order]
  simp [List.filter, g_is0, g_is1, g_is2]
theorem g_first : (Wk.orderL g5 2).find? (fun i => isS g5 i demoL) = some 2 := by
  unfold Wk.orderL
  rw [if_pos (by decide), g_order2]
  simp [g_is2]
theorem g_fits : fitsC (at_ g5 1) [] = true := by decide
end Go.Proofs.YthdenkkllpkplaaGreat.Fi
end
section
/- Sizes in a forest that bounded operations have grown. No program. -/
namespace Go.Proofs.YthdenkkllpkplaaGreat.Fi
open Go.Proofs.YthdenkkllpkplaaGreat.WS Go.Proofs.YthdenkkllpkplaaGreat.FS Go.Proofs.YthdenkkllpkplaaGreat.Fn Go.Proofs.YthdenkkllpkplaaGreat.Grown
set_option linter.unusedVariables false
def SzN (n : Nd) : Prop := n.name.size ≤ 300 ∧ ∀ a ∈ n.attrs, a.value.size ≤ 300
def SzF (f : Fo) : Prop := ∀ n ∈ f, SzN n
theorem SzF.set {f : Fo} (h : SzF f) (i : Nat) {n : Nd} (hn : SzN n) : SzF (f.set i n) := fun m hm => by
  rcases List.mem_or_eq_of_mem_set hm with h1 | rfl
  · exact h m h1
  · exact hn
theorem SzF.at {f : Fo} (h : SzF f) (i : Int) : SzN (at_ f i) := by
  have hd : SzN ({} : Nd) := ⟨by decide, fun a ha => by cases ha⟩
  unfold at_
  split
  · rw [List.getD_eq_getElem?_getD]
    by_cases hi : i.toNat < f.length
    · rw [List.getElem?_eq_getElem hi]
      exact h _ (List.getElem_mem hi)
    · rw [List.getElem?_eq_none (by omega)]
      exact hd
  · exact hd
theorem SzF.take {f : Fo} (h : SzF f) (i : Int) : SzF (takeF f i) := by
  have hg : SzF (if (at_ f i).parent = -1 then f else f.set (at_ f i).parent.toNat { at_ f (at_ f i).parent with kids := (at_ f (at_ f i).parent).kids.filter (· != i) }) := by
    split
    · exact h
    · exact h.set _ (h.at _)
  exact hg.set _ (hg.at i)
theorem SzF.insert {f : Fo} (h : SzF f) (o : Opn) : SzF (insertF f o) := by
  have hg := h.take o.id
  have hh : SzF ((takeF f o.id).set o.id.toNat { at_ (takeF f o.id) o.id with parent := o.to }) := hg.set _ (hg.at o.id)
  exact hh.set _ (hh.at o.to)
theorem set_sz {l : List Av} (h : ∀ a ∈ l, a.value.size ≤ 300) (n t : ByteArray) (ht : t.size ≤ 300) : ∀ a ∈ setA l n t, a.value.size ≤ 300 := fun a ha => by
  unfold setA at ha
  split at ha
  · rcases List.mem_or_eq_of_mem_set ha with h1 | rfl
    · exact h a h1
    · exact ht
  · rw [List.mem_append, List.mem_singleton] at ha
    rcases ha with h1 | rfl
    · exact h a h1
    · exact ht
theorem del_sz {l : List Av} (h : ∀ a ∈ l, a.value.size ≤ 300) (n : ByteArray) : ∀ a ∈ delA l n, a.value.size ≤ 300 := fun a ha => by
  unfold delA at ha
  split at ha
  · exact h a (List.mem_of_mem_eraseIdx ha)
  · exact h a ha
theorem SzF.one {f : Fo} (h : SzF f) {o : Opn} (ho : opB o = true) : SzF (oneF f o) := by
  unfold opB at ho
  rw [Bool.and_eq_true, decide_eq_true_eq, decide_eq_true_eq] at ho
  unfold oneF
  split
  · unfold doF
    split
    · intro n hn
      unfold freshF at hn
      rw [List.mem_append, List.mem_singleton] at hn
      rcases hn with h1 | rfl
      · exact h n h1
      · exact ⟨ho.1, fun a ha => by cases ha⟩
    · split
      · exact h.insert o
      · split
        · exact h.take _
        · split
          · exact h.set _ ⟨(h.at _).1, set_sz (h.at _).2 _ _ ho.2⟩
          · split
            · exact h.set _ ⟨(h.at _).1, del_sz (h.at _).2 _⟩
            · exact h.set _ (h.at _)
  · exact h
theorem grow_sz : ∀ (l : List Opn) {f : Fo}, SzF f → l.all opB = true → SzF (l.foldl oneF f)
  | [], f, h, _ => h
  | o :: l, f, h, hl => by
    rw [List.all_cons, Bool.and_eq_true] at hl
    exact grow_sz l (h.one hl.1) hl.2
theorem grow_sm {l : List Opn} (h : bndO l = true) : ∀ n ∈ growF l, Sm n := fun n hn => by
  unfold bndO at h
  rw [Bool.and_eq_true] at h
  have hz : SzF newFo := fun m hm => by
    rw [show newFo = [⟨0, ⟨#[]⟩, ⟨#[]⟩, [], -1, []⟩] from rfl, List.mem_singleton] at hm
    subst hm
    exact ⟨by decide, fun a ha => by cases ha⟩
  have := grow_sz l hz h.1 n hn
  exact ⟨Nat.le_trans this.1 (by decide), fun a ha => Nat.le_trans (this.2 a ha) (by decide)⟩
end Go.Proofs.YthdenkkllpkplaaGreat.Fi
end
section
/- The selector "*". -/
namespace Go.Proofs.YthdenkkllpkplaaGreat.Fi
open Go Go.RowKit Go.Proofs.YthdenkkllpkplaaGreat.WS Go.Proofs.YthdenkkllpkplaaGreat.FS Go.Proofs.YthdenkkllpkplaaGreat.Fn Go.Proofs.YthdenkkllpkplaaGreat.Pa Go.Proofs.YthdenkkllpkplaaGreat.Grown
set_option linter.unusedVariables false
def starL : Sel := [[{ c := [], child := false }]]
theorem star_parse : parseP ⟨#[42]⟩ = .ok starL := by kernel_rfl
theorem star_sm : SmS starL := (parse_sm star_parse).2
theorem up_len (f : Fo) : ∀ (n : Nat) (i : Int), (upL f n i).length = n
  | 0, _ => rfl
  | n + 1, i => by rw [upL, List.length_cons, up_len f n]
theorem star_ends (f : Fo) (n : Nat) (i : Int) (hn : 1 ≤ n) : endsB f (upL f n i).reverse [{ c := [], child := false }] = decide ((at_ f i).kind = 1) := by
  obtain ⟨m, rfl⟩ : ∃ m, n = m + 1 := ⟨n - 1, by omega⟩
  unfold endsB endsL endsL stepL
  have hl : (upL f (m + 1) i).reverse.length = m + 1 := by rw [List.length_reverse, up_len]
  have hg : (upL f (m + 1) i).reverse.getD m 0 = i := by
    rw [List.getD_eq_getElem?_getD, List.getElem?_reverse (by rw [up_len]; omega), up_len]
    simp [upL]
  rw [hl]
  simp only [Nat.add_sub_cancel]
  rw [List.getD_eq_getElem?_getD, List.getElem?_map, List.getElem?_range (by omega)]
  simp only [Option.map_some, Option.getD_some, hg]
  simp [fitsC]
theorem star_is {f : Fo} (hm : mayB f = true) {i : Int} (hi : isNode f i = true) : isS f i starL = decide ((at_ f i).kind = 1) := by
  unfold isS wayOf
  rw [hi]
  have hk := hi
  unfold isNode at hk
  rw [Bool.and_eq_true, decide_eq_true_eq, decide_eq_true_eq] at hk
  obtain ⟨k, rfl⟩ : ∃ k : Nat, i = (k : Int) := ⟨i.toNat, by omega⟩
  obtain ⟨N, hN⟩ := may_climbs hm k (by omega)
  rw [depthOf_up hN]
  have h1 : 1 ≤ N := by
    cases N with
    | zero => simp only [Up] at hN; omega
    | succ n => omega
  simp only [starL, List.any_cons, List.any_nil, Bool.or_false, Bool.true_and]
  exact star_ends f N _ h1
theorem none_is (f : Fo) (i : Int) : isS f i [] = false := by unfold isS; simp
theorem none_all (f : Fo) (i : Int) : allS f i [] = [] := by
  unfold allS
  rw [List.filter_eq_nil_iff]
  intro a _
  rw [none_is]
  decide
theorem star_all {f : Fo} (hm : mayB f = true) (i : Int) (ho : ∀ x ∈ Wk.orderL f i, isNode f x = true) : allS f i starL = (Wk.orderL f i).filter (fun x => decide ((at_ f x).kind = 1)) := by
  unfold allS
  exact List.filter_congr (fun x hx => star_is hm (ho x hx))
end Go.Proofs.YthdenkkllpkplaaGreat.Fi
end
section
/- treillagelaw10.bounded. -/
namespace Go.Proofs.YthdenkkllpkplaaGreat.Fi
open Go Go.RowKit Go.Proofs.YthdenkkllpkplaaGreat.Seq Go.Proofs.YthdenkkllpkplaaGreat.WS Go.Proofs.YthdenkkllpkplaaGreat.FS Go.Proofs.YthdenkkllpkplaaGreat.Mem Go.Proofs.YthdenkkllpkplaaGreat.Rd Go.Proofs.YthdenkkllpkplaaGreat.Shapes Go.Proofs.YthdenkkllpkplaaGreat.Word Go.Proofs.YthdenkkllpkplaaGreat.FFam Go.Proofs.YthdenkkllpkplaaGreat.Grown
set_option linter.unusedVariables false
set_option linter.unusedSimpArgs false
set_option maxRecDepth 100000 in
set_option maxHeartbeats 4000000 in
theorem bounded_calls (w : World) (v : Value) (l : List Opn) (h : RdO w.heap.size w v l) : Calls Tryz.prog 32 #[v] w fun e w' => e = .returned (.bool (bndO l)) ∧ w = w' := by
  obtain ⟨A0, c0, rfl, hl0, hc0, h'⟩ := h.form
  simp only [maxLen] at hc0
  have Hh := Lib.hid h'
  have hno := fun k (hk : k < l.length) hx => bndO_no (l := l) hk hx
  have Hno := Lib.hid hno
  clear h h' hno
  go_enter Tryz.func32, Tryz.ntmps32
  go_wp2_with fail
  go_loop [3] (fun i => ∃ k : Nat, k ≤ l.length ∧ i = .int .i64 k ∧ Hid ((l.take k).all opB = true)) (fun i => l.length - (intOf i).toNat)
  case atStart => exact ⟨0, Nat.zero_le _, rfl, Lib.hid rfl⟩
  case round =>
    obtain ⟨k, hk, rfl, hall⟩ := hrel
    by_cases hlt : k < l.length
    · obtain ⟨b, o, rfl, hbl, _, _, _, _, g4, g5, m1, m2, _, _⟩ := op_at Hh.out hlt
      have hno := Hno.out k hlt
      have htk : l.take (k + 1) = l.take k ++ [l[k]] := List.take_succ_eq_append_getElem hlt
      have hallk : opB l[k] = true → (l.take (k + 1)).all opB = true := fun hx => by rw [htk, List.all_append, hall.out]; simp [hx]
      have Hallk := Lib.hid hallk; have Hn := Lib.hid hno
      clear hallk hno htk hall m1 m2
      generalize l[k] = x at *
      by_cases h1 : x.name.size ≤ 300
      · by_cases h2 : x.text.size ≤ 300
        · have hx : opB x = true := by unfold opB; rw [decide_eq_true h1, decide_eq_true h2]; rfl
          have Hx := Lib.hid hx
          clear hx
          go_wp2_with fail
          go_round
          case rel => exact ⟨k + 1, by omega, by go_num, Lib.hid (Hallk.out Hx.out)⟩
          case measure => simp [intOf]; omega
        · have hx : opB x = false := by unfold opB; rw [decide_eq_false h2]; simp
          have Hx := Lib.hid hx
          clear hx
          go_wp2_with fail
          go_ret
          exact ⟨by rw [Hn.out Hx.out]; rfl, rfl⟩
      · have hx : opB x = false := by unfold opB; rw [decide_eq_false h1]; rfl
        have Hx := Lib.hid hx
        clear hx
        go_wp2_with fail
        go_ret
        exact ⟨by rw [Hn.out Hx.out]; rfl, rfl⟩
    · have hr : bndO l = decide ((l.length : Int) ≤ 150) := by
        unfold bndO
        have := hall.out
        rw [List.take_of_length_le (by omega)] at this
        rw [this, Bool.true_and]
        rw [Bool.eq_iff_iff]; simp; try omega
      have Hr := Lib.hid hr
      clear hr hall
      go_wp2_with fail
      go_ret
      exact ⟨by rw [Hr.out]; rfl, rfl⟩
end Go.Proofs.YthdenkkllpkplaaGreat.Fi
end
section
/- treillagelaw10.grown. -/
namespace Go.Proofs.YthdenkkllpkplaaGreat.Fi
open Go Go.RowKit Go.Proofs.YthdenkkllpkplaaGreat.Seq Go.Proofs.YthdenkkllpkplaaGreat.WS Go.Proofs.YthdenkkllpkplaaGreat.FS Go.Proofs.YthdenkkllpkplaaGreat.Mem Go.Proofs.YthdenkkllpkplaaGreat.Rd Go.Proofs.YthdenkkllpkplaaGreat.Shapes Go.Proofs.YthdenkkllpkplaaGreat.Word Go.Proofs.YthdenkkllpkplaaGreat.FFam Go.Proofs.YthdenkkllpkplaaGreat.Grown
set_option linter.unusedVariables false
set_option linter.unusedSimpArgs false
def GrownPost (l : List Opn) (w : World) (e : Ending) (w' : World) : Prop := ∃ v, e = .returned v ∧ RdF w'.heap.size w' v (growF l) ∧ Below w.heap.size w w'
set_option maxRecDepth 100000 in
set_option maxHeartbeats 4000000 in
theorem grown_calls (w : World) (v : Value) (l : List Opn) (h : RdO w.heap.size w v l) : Calls Tryz.prog 35 #[v] w (GrownPost l w) := by
  have hnew := FNew.New_calls w
  have hrd := fun w' (hb : Below w.heap.size w w') => h.below opE_keeps (w' := w') hb (Nat.le_refl _)
  obtain ⟨A0, c0, rfl, hl0, hc0, _⟩ := h.form
  simp only [maxLen] at hc0
  have Hnew := Lib.hid hnew; have Hrd := Lib.hid hrd
  clear h hnew hrd
  go_enter Tryz.func35, Tryz.ntmps35
  go_wp2_with (go_at_call 20; ((with_reducible refine (Hnew.out).mono ?_); rintro e w1 ⟨v1, rfl, hr1, hb1⟩; have Hr1 := Lib.hid hr1; have Hb1 := Lib.hid hb1; clear hr1 hb1))
  go_loopw [3, 4] (fun v i wr => ∃ k : Nat, k ≤ l.length ∧ i = .int .i64 k ∧ RdF wr.heap.size wr v (growF (l.take k)) ∧ Below w.heap.size w wr) (fun _ i _ => l.length - (intOf i).toNat)
  case atStart => exact ⟨0, Nat.zero_le _, rfl, Hr1.out, Hb1.out⟩
  case round =>
    obtain ⟨k, hk, rfl, hr, hb⟩ := hrel
    have hmg := grow_may (l.take k)
    by_cases hlt : k < l.length
    · obtain ⟨b, o, rfl, hbl, g0, g1, g2, g3, g4, g5, m1, m2, m3, m4⟩ := op_at (Hrd.out _ hb) hlt
      have hone := Doings.one_calls wr _ _ l[k] hr hmg m1 m2 m3 m4
      have hs : growF (l.take (k + 1)) = oneF (growF (l.take k)) l[k] := by rw [List.take_succ_eq_append_getElem hlt, grow_snoc]
      obtain ⟨A3, c3, rfl, _, _, _⟩ := hr.form
      have Hone := Lib.hid hone; have Hs := Lib.hid hs; have Hb := Lib.hid hb
      clear hone hs hb hr hmg m1 m2 m3 m4
      generalize l[k] = x at *
      go_wp2_with (go_at_call 21; ((with_reducible refine (Hone.out).mono ?_); rintro e w5 ⟨v5, rfl, hr5, hb5⟩; have Hr5 := Lib.hid hr5; have Hb5 := Lib.hid hb5; clear hr5 hb5))
      go_roundw
      case rel => exact ⟨k + 1, by omega, by go_num, by rw [Hs.out]; exact Hr5.out, bthen Hb.out Hb5.out⟩
      case measure => simp [intOf]; omega
    · have hl : growF (l.take k) = growF l := by rw [List.take_of_length_le (by omega)]
      rw [hl] at hr hmg
      have hmy := FMay.May_calls wr _ _ hr (fun n hn => by have := Work.may_kids hmg n hn; omega)
      rw [hmg] at hmy
      obtain ⟨A3, c3, rfl, _, _, _⟩ := hr.form
      have Hmy := Lib.hid hmy; have Hr := Lib.hid hr; have Hb := Lib.hid hb
      clear hmy hr hb hmg hl
      go_wp2_with (go_at_call 27; ((with_reducible refine (Hmy.out).mono ?_); rintro e w5 ⟨rfl, hb5⟩; have Hb5 := Lib.hid hb5; clear hb5))
      go_ret
      exact ⟨_, rfl, (Hr.out.below nodeE_keeps Hb5.out (Nat.le_refl _)).mono nodeE_keeps Hb5.out.size, bthen Hb.out Hb5.out⟩
end Go.Proofs.YthdenkkllpkplaaGreat.Fi
end
section
/- treillagelaw10.shown. -/
namespace Go.Proofs.YthdenkkllpkplaaGreat.Fi
open Go Go.RowKit Go.Proofs.YthdenkkllpkplaaGreat.Seq Go.Proofs.YthdenkkllpkplaaGreat.WS Go.Proofs.YthdenkkllpkplaaGreat.FS Go.Proofs.YthdenkkllpkplaaGreat.Mem Go.Proofs.YthdenkkllpkplaaGreat.Rd Go.Proofs.YthdenkkllpkplaaGreat.Shapes Go.Proofs.YthdenkkllpkplaaGreat.Word Go.Proofs.YthdenkkllpkplaaGreat.FFam Go.Proofs.YthdenkkllpkplaaGreat.Grown Go.Proofs.YthdenkkllpkplaaGreat.Fn Go.Proofs.YthdenkkllpkplaaGreat.Pa
set_option linter.unusedVariables false
set_option linter.unusedSimpArgs false
abbrev opsF : Array Value := #[.int .i64 1, .int .i64 0, .int .i64 0, .int .i64 0, .string ⟨#[65]⟩, .string ⟨#[]⟩, .int .i64 4, .int .i64 1, .int .i64 0, .int .i64 0, .string ⟨#[]⟩, .string ⟨#[]⟩, .int .i64 1, .int .i64 0, .int .i64 0, .int .i64 0, .string ⟨#[98]⟩, .string ⟨#[]⟩,
  .int .i64 4, .int .i64 2, .int .i64 1, .int .i64 0, .string ⟨#[]⟩, .string ⟨#[]⟩, .int .i64 6, .int .i64 2, .int .i64 0, .int .i64 0, .string ⟨#[99, 108, 97, 115, 115]⟩, .string ⟨#[120, 32, 121]⟩]
def opL (o : Opn) : List Value := [.int .i64 o.kind, .int .i64 o.id, .int .i64 o.to, .int .i64 o.at_, .string o.name, .string o.text]
theorem d_ok : ∀ o ∈ fOps, OkO o := by unfold OkO; decide
theorem ops_rd (w : World) (b : Nat) (h : w.heap[b]? = some (.cells opsF 24 (0, 0))) : RdO w.heap.size w (.slice (some ⟨b, 0, none⟩) 5 5) fOps := by
  have l1 := lt_heap h
  refine ⟨_, 5, rfl, by decide, by decide, fun h0 => ⟨b, 0, rfl, l1, fun i hi => ?_⟩⟩
  have hi5 : i < 5 := hi
  match i, hi5 with
  | 0, _ => exact ⟨opL fOps[0], rfl, fun j u hj => by rw [cell_of_row _ _ _ _ _ _ h]; exact LShown.six 0 hj (by rfl), rfl, d_ok _ (List.getElem_mem _)⟩
  | 1, _ => exact ⟨opL fOps[1], rfl, fun j u hj => by rw [cell_of_row _ _ _ _ _ _ h]; exact LShown.six 6 hj (by rfl), rfl, d_ok _ (List.getElem_mem _)⟩
  | 2, _ => exact ⟨opL fOps[2], rfl, fun j u hj => by rw [cell_of_row _ _ _ _ _ _ h]; exact LShown.six 12 hj (by rfl), rfl, d_ok _ (List.getElem_mem _)⟩
  | 3, _ => exact ⟨opL fOps[3], rfl, fun j u hj => by rw [cell_of_row _ _ _ _ _ _ h]; exact LShown.six 18 hj (by rfl), rfl, d_ok _ (List.getElem_mem _)⟩
  | 4, _ => exact ⟨opL fOps[4], rfl, fun j u hj => by rw [cell_of_row _ _ _ _ _ _ h]; exact LShown.six 24 hj (by rfl), rfl, d_ok _ (List.getElem_mem _)⟩
theorem g_sm : ∀ n ∈ g5, Sm n := by unfold Sm; decide
theorem demo_sm : SmS demoL := (parse_sm demo_parse).2
set_option maxRecDepth 100000 in
set_option maxHeartbeats 4000000 in
theorem shown_calls (w : World) : Calls Tryz.prog 34 #[] w fun e w' => e = .returned (.bool true) ∧ Below w.heap.size w w' := by
  have hb0 : Below w.heap.size w (w.alloc (.cells opsF 24)) := (Below.refl _ _).alloc (Nat.le_refl _) _
  have hg : Calls Tryz.prog 35 #[.slice (some ⟨w.heap.size, 0, none⟩) 5 5] (w.alloc (.cells opsF 24)) (fun e w' => ∃ A c, e = .returned (.slice A 3 c) ∧ RdF w'.heap.size w' (.slice A 3 c) g5 ∧ Below w.heap.size w w') := by
    refine (grown_calls (w.alloc (.cells opsF 24)) _ fOps (ops_rd _ _ (World.alloc_heap_new _ _))).mono ?_
    rintro e w' ⟨v, rfl, hr, hb⟩
    rw [show growF fOps = g5 from g_grow] at hr
    obtain ⟨A, c, rfl, _, _, hr'⟩ := hr.form
    exact ⟨A, c, rfl, hr', bthen hb0 hb⟩
  have hp : ∀ w', Calls Tryz.prog 47 #[.string ⟨#[97, 32, 46, 121, 44, 32, 97, 32, 62, 32, 99]⟩] w' (fun e w'' => ∃ v, e = .returned (.tuple #[v, .int .i64 0, .int .i64 0]) ∧ RdSel w''.heap.size w'' v demoL ∧ Below w'.heap.size w' w'') := fun w' => by
    refine (parse_calls demoT (by decide) w').mono ?_
    unfold ParseQ
    rw [demo_parse]
    rintro e w'' ⟨hb, v, rfl, hr⟩
    exact ⟨v, rfl, sel_of hr, hb⟩
  have hall : ∀ w' A c v, RdF w'.heap.size w' (.slice A 3 c) g5 → RdSel w'.heap.size w' v demoL → Calls Tryz.prog 37 #[.slice A 3 c, .int .i64 0, v] w' (fun e w'' => ∃ b o c', e = .returned (.slice (some ⟨b, o, none⟩) 1 c') ∧ b < w''.heap.size ∧ w''.cell? ⟨b, o, none⟩ = some (.int .i64 2) ∧ Below w'.heap.size w' w'') := fun w' A c v hr hs => by
    refine (All_calls w' _ g5 hr n5 g_sm 0 (by decide) v demoL hs demo_sm).mono ?_
    rintro e w'' ⟨u, rfl, hu, hb⟩
    rw [g_all] at hu
    obtain ⟨A', c', rfl, _, _, _⟩ := id hu
    obtain ⟨b, o, rfl, hlt, g0, _⟩ := intE_at hu (i := 0) (by decide)
    exact ⟨b, o, c', rfl, hlt, by simpa using g0, hb⟩
  have hfirst : ∀ w' A c v, RdF w'.heap.size w' (.slice A 3 c) g5 → RdSel w'.heap.size w' v demoL → Calls Tryz.prog 38 #[.slice A 3 c, .int .i64 2, v] w' (fun e w'' => e = .returned (.tuple #[.int .i64 2, .bool true]) ∧ Below w'.heap.size w' w'') := fun w' A c v hr hs => by
    have := First_calls w' _ g5 hr n5 g_sm 2 (by decide) v demoL hs demo_sm
    rw [g_first] at this
    exact this
  have his : ∀ w' A c v, RdF w'.heap.size w' (.slice A 3 c) g5 → RdSel w'.heap.size w' v demoL → Calls Tryz.prog 43 #[.slice A 3 c, .int .i64 2, v] w' (fun e w'' => e = .returned (.bool true) ∧ Below w'.heap.size w' w'') := fun w' A c v hr hs => by
    have := Is_calls w' _ g5 hr n5 g_sm 2 v demoL hs demo_sm
    rw [g_is2] at this
    exact this
  have Hg := Lib.hid hg; have Hp := Lib.hid hp; have Hall := Lib.hid hall; have Hfirst := Lib.hid hfirst; have His := Lib.hid his
  clear hg hp hall hfirst his hb0
  go_enter Tryz.func34, Tryz.ntmps34
  go_upto_region 2 with (go_at_call 35; (with_reducible refine (Hg.out).mono ?_); rintro e w5 ⟨A5, c5, rfl, hr5, hb5⟩; have Hr5 := Lib.hid hr5; have Hb5 := Lib.hid hb5; clear hr5 hb5)
  have hrd := fun w' (hb : Below w5.heap.size w5 w') => (Hr5.out.below nodeE_keeps (w' := w') hb (Nat.le_refl _)).mono nodeE_keeps hb.size
  have Hrd := Lib.hid hrd
  clear hrd
  go_upto_region 3 with (go_at_call 47; (with_reducible refine (Hp.out _).mono ?_); rintro e w6 ⟨v6, rfl, hr6, hb6⟩; have Hr6 := Lib.hid hr6; have Hb6 := Lib.hid hb6; clear hr6 hb6)
  have hrl := fun w' (hb : Below w6.heap.size w6 w') => (Hr6.out.below rowE_keeps (w' := w') hb (Nat.le_refl _)).mono rowE_keeps hb.size
  have Hrl := Lib.hid hrl
  clear hrl
  go_upto_region 4 with (go_at_call 37; (with_reducible refine (Hall.out _ _ _ _ (Hrd.out _ Hb6.out) Hr6.out).mono ?_); rintro e w7 ⟨b7, o7, c7, rfl, hl7, h7, hb7⟩; have Hl7 := Lib.hid hl7; have H7 := Lib.hid h7; have Hb7 := Lib.hid hb7; clear hb7 hl7 h7)
  go_upto_region 5 with (go_at_call 38; (with_reducible refine (Hfirst.out _ _ _ _ (Hrd.out _ (bthen Hb6.out Hb7.out)) (Hrl.out _ Hb7.out)).mono ?_); rintro e w8 ⟨rfl, hb8⟩; have Hb8 := Lib.hid (bthen Hb7.out hb8); have y8 := cell_grow hb8 H7.out; clear hb8)
  have hr8 := Hrd.out _ (bthen Hb6.out Hb8.out)
  obtain ⟨bn, on, Aa, ca, Ak, ck, rfl, hbn, n0, n1, n2, n3, n4, n5, ra, _, _, _, _, _, _, _, _, _⟩ := node_at hr8 (i := 1) (by decide)
  have hN : Sm g5[1] ∧ fitsC g5[1] [] = true := ⟨g_sm _ (List.getElem_mem _), g_fits⟩
  generalize g5[1] = N at *
  have hfit := fun w' (hb : Below w8.heap.size w8 w') => Fits_calls w' N (.slice Aa N.attrs.length ca) (.slice Ak N.kids.length ck) (.slice none 0 0) [] ((ra.below attrE_keeps (w' := w') hb (Nat.le_refl _)).mono attrE_keeps hb.size) RdL.nil hN.1 (fun t ht => by cases ht)
  unfold SoPost at hfit
  rw [hN.2] at hfit
  have hnode := fun w' (hb : Below w8.heap.size w8 w') => (⟨cell_grow hb n0, cell_grow hb n1, cell_grow hb n2, cell_grow hb n3, cell_grow hb n4, cell_grow hb n5⟩ : w'.cell? ⟨bn, on + 6, none⟩ = _ ∧ w'.cell? ⟨bn, on + 6 + 1, none⟩ = _ ∧ w'.cell? ⟨bn, on + 6 + 2, none⟩ = _ ∧ w'.cell? ⟨bn, on + 6 + 3, none⟩ = _ ∧ w'.cell? ⟨bn, on + 6 + 4, none⟩ = _ ∧ w'.cell? ⟨bn, on + 6 + 5, none⟩ = _)
  have Hfit := Lib.hid hfit; have Hnode := Lib.hid hnode; have Hr8 := Lib.hid hr8
  clear hfit hnode hr8 hN n0 n1 n2 n3 n4 n5 ra
  go_wp2_with (first | (go_at_call 43; (with_reducible refine (His.out _ _ _ _ Hr8.out (Hrl.out _ Hb8.out)).mono ?_); rintro e w9 ⟨rfl, hb9⟩; obtain ⟨n0, n1, n2, n3, n4, n5⟩ := Hnode.out _ hb9; have Hb9 := Lib.hid hb9; clear hb9) | (go_at_call 45; (with_reducible refine (Hfit.out _ Hb9.out).mono ?_); rintro e w10 ⟨rfl, hb10⟩; have Hb10 := Lib.hid (bthen Hb9.out hb10); clear hb10))
  go_ret
  exact ⟨rfl, bthen Hb5.out (bthen Hb6.out (bthen Hb8.out Hb10.out))⟩
end Go.Proofs.YthdenkkllpkplaaGreat.Fi
end
