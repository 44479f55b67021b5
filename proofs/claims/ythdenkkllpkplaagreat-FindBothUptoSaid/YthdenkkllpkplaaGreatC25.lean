/- Joined by a program: RdPart, LStar, FnP, Few, FnO, FnL, FnN. -/
import Derived.Test.YthdenkkllpkplaaGreatC24
import Derived.Test.YthdenkkllpkplaaGreatC14
import Derived.Test.YthdenkkllpkplaaGreatC23
import Derived.Test.YthdenkkllpkplaaGreatC06
import Derived.Test.YthdenkkllpkplaaGreatC09
import Derived.Test.YthdenkkllpkplaaGreatC18
section
/- A part of a slice that reads as a list. -/
namespace Go.Proofs.YthdenkkllpkplaaGreat.Rd
open Go Go.RowKit Go.Proofs.YthdenkkllpkplaaGreat.Seq Go.Proofs.YthdenkkllpkplaaGreat.Mem
set_option linter.unusedVariables false
theorem RdL.part {α : Type} {E : Elem α} {sz B : Nat} {w : World} {b o n c : Nat} {l : List α} (h : RdL E sz B w (.slice (some ⟨b, o, none⟩) n c) l) {i m : Nat} (hi : i + m ≤ l.length) :
    RdL E sz B w (.slice (some ⟨b, o + i * sz, none⟩) m (c - i)) ((l.drop i).take m) := by
  obtain ⟨A', c', hv, h1, h2, h3⟩ := h
  injection hv with e1 e2 e3
  subst e1 e2 e3
  have hl : ((l.drop i).take m).length = m := by rw [List.length_take, List.length_drop]; omega
  refine ⟨some ⟨b, o + i * sz, none⟩, c - i, by rw [hl], by rw [hl]; omega, by omega, fun h0 => ?_⟩
  obtain ⟨b', o', e, hlt, hc⟩ := h3 (by omega)
  injection e with e
  injection e with e4 e5 _
  subst e4 e5
  refine ⟨b, o + i * sz, rfl, hlt, fun j hj => ?_⟩
  rw [hl] at hj
  obtain ⟨cs, g1, g2, g3⟩ := hc (i + j) (by omega)
  refine ⟨cs, g1, fun k u hk => ?_, ?_⟩
  · rw [show o + i * sz + j * sz + k = o + (i + j) * sz + k by rw [Nat.add_mul]; omega]
    exact g2 k u hk
  · rw [List.getElem_take, List.getElem_drop]
    exact g3
theorem part_one {α : Type} {l : List α} {i : Nat} (hi : i < l.length) : (l.drop i).take 1 = [l[i]] := by
  rw [List.drop_eq_getElem_cons hi]
  rfl
end Go.Proofs.YthdenkkllpkplaaGreat.Rd
namespace Go.Proofs.YthdenkkllpkplaaGreat.Ap
open Go Go.RowKit
/-- One element of a forest's slice. -/
theorem run_part1 (w : World) (b o n c k : Nat) (hk : k < n) (hc : n ≤ c) : (Instr.slice 28 (.slice (some ⟨b, o, none⟩) n c) (some (.int .i64 (k : Int))) (some (.int .i64 ((k : Int) + 1))) none).run Tryz.prog w = .ok (.slice (some ⟨b, o + k * 6, none⟩) 1 (c - k)) w := by
  have hu := Tryz.underlying28
  have hs : (sizeOf 55).run Tryz.prog w = .ok 6 w := by kernel_rfl
  have h1 := run_slice_lh (P := Tryz.prog) (w := w) 28 (some ⟨b, o, none⟩) n c (by kernel_rfl) .i64 .i64 (k : Int) ((k : Int) + 1) (by omega) (by omega) (by omega)
  rw [h1, show Tryz.prog.elem 28 = 55 from by kernel_rfl, hs]
  simp only [Result.andThen, sliced, Int.toNat_natCast, Option.map_some, Addr.add_lit]
  rw [if_neg (by omega), show ((k : Int) + 1).toNat - k = 1 by omega]
/-- The first elements of a forest's slice. -/
theorem run_head (w : World) (b o n c k : Nat) (hk : k ≤ n) (h0 : 0 < n) (hc : n ≤ c) : (Instr.slice 28 (.slice (some ⟨b, o, none⟩) n c) none (some (.int .i64 (k : Int))) none).run Tryz.prog w = .ok (.slice (some ⟨b, o, none⟩) k c) w := by
  have hs : (sizeOf 55).run Tryz.prog w = .ok 6 w := by kernel_rfl
  have h1 := run_slice_h (P := Tryz.prog) (w := w) 28 (some ⟨b, o, none⟩) n c (by kernel_rfl) .i64 (k : Int) (by omega) (by omega)
  rw [h1, show Tryz.prog.elem 28 = 55 from by kernel_rfl, hs]
  simp only [Result.andThen, sliced, Int.toNat_natCast, Option.map_some, Addr.add_lit, Nat.zero_mul, Nat.add_zero, Nat.sub_zero]
  rw [if_neg (by omega)]
end Go.Proofs.YthdenkkllpkplaaGreat.Ap
end
section
/- treillagelaw10.FindStar. -/
namespace Go.Proofs.YthdenkkllpkplaaGreat.LStar
open Go Go.RowKit Go.Proofs.YthdenkkllpkplaaGreat.Seq Go.Proofs.YthdenkkllpkplaaGreat.WS Go.Proofs.YthdenkkllpkplaaGreat.FS Go.Proofs.YthdenkkllpkplaaGreat.Mem Go.Proofs.YthdenkkllpkplaaGreat.Rd Go.Proofs.YthdenkkllpkplaaGreat.Shapes Go.Proofs.YthdenkkllpkplaaGreat.Word Go.Proofs.YthdenkkllpkplaaGreat.FFam Go.Proofs.YthdenkkllpkplaaGreat.Grown Go.Proofs.YthdenkkllpkplaaGreat.Fn Go.Proofs.YthdenkkllpkplaaGreat.Pa Go.Proofs.YthdenkkllpkplaaGreat.Fi
set_option linter.unusedVariables false
set_option linter.unusedSimpArgs false
theorem u8_nat' {a : Int} (h : (Lit.int .u8 a).wf = true) : ∃ n : Nat, a = n ∧ n ≤ 255 := by
  simp only [Lit.wf, Bool.and_eq_true, decide_eq_true_eq] at h
  have h0 : (0 : Int) ≤ a := h.1
  have h1 : a ≤ 255 := h.2
  exact ⟨a.toNat, by omega, by omega⟩
theorem rem_nat (a b : Nat) (hb : 0 < b) : (a : Int) % (b : Int) = ((a % b : Nat) : Int) ∧ Int.tmod (a : Int) (b : Int) = ((a % b : Nat) : Int) := by
  have h1 : (a : Int) % (b : Int) = ((a % b : Nat) : Int) := by omega
  exact ⟨h1, by rw [Int.tmod_eq_emod_of_nonneg (by omega)]; exact h1⟩
set_option maxRecDepth 100000 in
set_option maxHeartbeats 8000000 in
theorem law_calls (w : World) (l : List Opn) (v : Value) (h : RdO w.heap.size w v l) (t : Int) (ht : (Lit.int .u8 t).wf = true) :
    Calls Tryz.prog 15 #[v, .int .u8 t] w fun e w' => e = .returned (.bool true) ∧ Below w.heap.size w w' := by
  have hbn := Fi.bounded_calls w v l h
  have hgr := fun w' (hb : Below w.heap.size w w') => Fi.grown_calls w' v l ((h.below opE_keeps (w' := w') hb (Nat.le_refl _)).mono opE_keeps hb.size)
  unfold Fi.GrownPost at hgr
  obtain ⟨A0, c0, rfl, hl0, hc0, _⟩ := h.form
  simp only [maxLen] at hc0
  cases hB : bndO l with
  | false =>
    rw [hB] at hbn
    have Hbn := Lib.hid hbn
    clear hbn hB ht hgr h
    go_enter Tryz.func15, Tryz.ntmps15
    go_wp2_with (first | (go_at_call 32; (with_reducible refine (Hbn.out).mono ?_); rintro e w5 ⟨rfl, rfl⟩; clear Hbn) | (go_at_call 34; (with_reducible refine (Fi.shown_calls _).mono ?_); rintro e w6 ⟨rfl, hb6⟩; have Hb6 := Lib.hid hb6; clear hb6))
    go_ret
    exact ⟨rfl, Hb6.out⟩
  | true =>
    rw [hB] at hbn
    have hm := grow_may l
    have hsm := Fi.grow_sm hB
    obtain ⟨tn, rfl, htn⟩ := u8_nat' ht
    obtain ⟨f, hf⟩ : ∃ f, f = growF l := ⟨_, rfl⟩
    rw [← hf] at hm hsm
    simp only [← hf] at hgr
    have hlen := may_len hm
    have Hbn := Lib.hid hbn; have Hgr := Lib.hid hgr; have Hm := Lib.hid hm; have Hsm := Lib.hid hsm
    clear hbn hB ht hgr h hf hm hsm
    have hp : ∀ w', Calls Tryz.prog 47 #[.string ⟨#[42]⟩] w' (fun e w'' => ∃ v, e = .returned (.tuple #[v, .int .i64 0, .int .i64 0]) ∧ RdSel w''.heap.size w'' v starL ∧ Below w'.heap.size w' w'') := fun w' => by
      refine (parse_calls ⟨#[42]⟩ (by decide) w').mono ?_
      unfold ParseQ
      rw [star_parse]
      rintro e w'' ⟨hb, v, rfl, hr⟩
      exact ⟨v, rfl, sel_of hr, hb⟩
    have Hp := Lib.hid hp
    clear hp
    go_enter Tryz.func15, Tryz.ntmps15
    go_upto_region 5 with (first | (go_at_call 32; (with_reducible refine (Hbn.out).mono ?_); rintro e w5 ⟨rfl, rfl⟩; clear Hbn) | (go_at_call 34; (with_reducible refine (Fi.shown_calls _).mono ?_); rintro e w6 ⟨rfl, hb6⟩; have Hb6 := Lib.hid hb6; clear hb6) | (go_at_call 35; (with_reducible refine (Hgr.out _ Hb6.out).mono ?_); rintro e w7 ⟨v7, rfl, hr7, hb7⟩; have Hr7 := Lib.hid hr7; have Hb7 := Lib.hid (bthen Hb6.out hb7); clear hr7 hb7) | (go_at_call 47; (with_reducible refine (Hp.out _).mono ?_); rintro e w8 ⟨v8, rfl, hr8, hb8⟩; have Hr8 := Lib.hid hr8; have Hb8 := Lib.hid hb8; clear hr8 hb8))
    obtain ⟨A7, c7, rfl, hl7, hc7, hr7⟩ := Hr7.out.form
    simp only [maxLen] at hc7
    have hrd := fun w' (hb : Below w7.heap.size w7 w') => (hr7.below nodeE_keeps (w' := w') hb (Nat.le_refl _)).mono nodeE_keeps hb.size
    obtain ⟨tt, htt⟩ : ∃ m, m = tn % f.length := ⟨_, rfl⟩
    have htt6 : tt < f.length := by rw [htt]; exact Nat.mod_lt _ (by omega)
    obtain ⟨u1, u2⟩ := rem_nat tn f.length (by omega)
    rw [← htt] at u1 u2
    have hq : ((f.length : Int) == 0) = false := by rw [beq_eq_false_iff_ne]; omega
    have hnode : isNode f (tt : Int) = true := by unfold isNode; rw [Bool.and_eq_true, decide_eq_true_eq, decide_eq_true_eq]; omega
    have hwt : (Lit.int .i64 (tt : Int)).wf = true := by
      simp only [Lit.wf, Bool.and_eq_true, decide_eq_true_eq]
      exact ⟨Int.le_trans (by decide) (Int.natCast_nonneg tt), Int.le_trans (show (tt : Int) ≤ 100 by omega) (by decide)⟩
    have hor := fun w' (hb : Below w7.heap.size w7 w') => Wk.Order_calls w' _ f (hrd w' hb) Hm.out (tt : Int) hwt
    unfold Wk.OrderPost at hor
    rw [show Wk.nodeErr f (tt : Int) = 0 from if_pos hnode] at hor
    obtain ⟨O, hO⟩ : ∃ O, O = Wk.orderL f (tt : Int) := ⟨_, rfl⟩
    simp only [← hO] at hor
    have HO := Lib.hid hO
    clear hO
    have Hor := Lib.hid hor; have Hrd := Lib.hid hrd; have Htt := Lib.hid htt; have Hnode := Lib.hid hnode; have Hwt := Lib.hid hwt
    clear hor hrd htt hnode hwt hr7 Hr7
    go_upto_region 9 with (go_at_call 48; (with_reducible refine (Hor.out _ Hb8.out).mono ?_); rintro e w9 ⟨v9, rfl, hr9, hb9⟩; have Hr9 := Lib.hid hr9; have Hb9 := Lib.hid hb9; clear hr9 hb9)
    obtain ⟨A9, c9, rfl, l9, m9, _⟩ := Hr9.out.form
    simp only [maxLen] at m9
    have hon : ∀ x ∈ O, isNode f x = true := fun x hx => by
      have h := may_is Hm.out
      rw [HO.out, Wk.orderL, if_pos Hnode.out] at hx
      exact ((order_mem h Hnode.out x).1 hx).1
    have hol : O.length ≤ 60 := by rw [HO.out]; exact orderL_len Hm.out _
    obtain ⟨p, hp⟩ : ∃ p : Int → Bool, p = fun x => decide ((at_ f x).kind = 1) := ⟨_, rfl⟩
    have Hon := Lib.hid hon; have Hp2 := Lib.hid hp
    clear hon hp
    go_wp2_with fail
    go_loopw [12, 13] (fun u i wr => ∃ k : Nat, k ≤ O.length ∧ i = .int .i64 k ∧ Hid (wr.ownsRow w9.heap.size 3 1 u ((O.take k).filter p).length (((O.take k).filter p).map (Value.int .i64))) ∧ Hid (Below w9.heap.size w9 wr)) (fun _ i _ => O.length - (intOf i).toNat)
    case atStart => exact ⟨0, Nat.zero_le _, rfl, Lib.hid (World.ownsRow_lit w9 #[] 0 (Nat.le_refl _) (by decide) rfl), Lib.hid ((Below.refl _ _).alloc (Nat.le_refl _) _)⟩
    case round =>
      obtain ⟨k, hk, rfl, hrow, hb⟩ := hrel
      obtain ⟨Ar, cr, rfl⟩ := LShown.slice_of hrow.out
      by_cases hlt : k < O.length
      · obtain ⟨b, o, rfl, _, g0, gw⟩ := intE_at (Hr9.out.below (intE_keeps _) (w' := wr) hb.out (Nat.le_refl _)) hlt
        have hts := filt_succ (p := p) hlt
        have htl := filt_le O p k
        have hnx := Hon.out O[k] (List.getElem_mem hlt)
        have hpx : p O[k] = decide ((at_ f O[k]).kind = 1) := by rw [Hp2.out]
        generalize O[k] = x at *
        obtain ⟨z, rfl, hz⟩ := node_nat hnx
        obtain ⟨bn, on, Aa, ca, Ak, ck, rfl, hbn, n0, _⟩ := node_at (Hrd.out wr (bthen (bthen Hb8.out Hb9.out) hb.out)) hz
        rw [atN hz] at hpx
        have hz0 : (0 : Int) ≤ (z : Int) := by omega
        have hzI : (z : Int) < (f.length : Int) := by omega
        by_cases hx : f[z].kind = 1
        · rw [hx] at n0
          rw [hpx, if_pos (by rw [hx]; rfl)] at hts
          have Hts := Lib.hid hts
          have Hrow := Lib.hid (show wr.ownsRow w9.heap.size 3 1 (.slice Ar ((O.take k).filter p).length cr) (((O.take k).filter p).map (Value.int .i64)).length (((O.take k).filter p).map (Value.int .i64)) from by rw [List.length_map]; exact hrow.out)
          clear hts hpx hx gw
          go_wp2_with (at_builtin; go_loud (refine Mem.pl_append _ w9.heap.size rfl _ _ 53 3 (.int .i64 0) 8 rfl Tryz.underlying53 info_int rfl (.slice Ar ((O.take k).filter p).length cr) (((O.take k).filter p).map (Value.int .i64)) (.int .i64 z) rfl (by simp [Act.eval]) rfl Hrow.out hb.out.size (by rw [List.length_map]; omega) (by rw [List.length_map]; simp [maxLen]; omega) ?_); rintro v7 w17 hown7 hgrow7 ⟨g7, cap7, rfl, hat⟩; have Hown7 := Lib.hid hown7; have Hgrow7 := Lib.hid hgrow7; clear hown7 hgrow7 hat)
          go_roundw
          case rel =>
            refine ⟨k + 1, by omega, by go_num, Lib.hid ?_, Lib.hid (FTops.grown_below hb.out Hgrow7.out Hrow.out (Nat.le_refl _))⟩
            have h9 := Hown7.out
            rw [show ((O.take k).filter p).map (Value.int .i64) ++ [Value.int .i64 z] = ((O.take (k + 1)).filter p).map (Value.int .i64) by rw [Hts.out, List.map_append]; rfl, List.length_map] at h9
            simpa only [List.length_map] using h9
          case measure => simp [intOf]; omega
        · have hkq : (f[z].kind == 1) = false := by rw [beq_eq_false_iff_ne]; exact hx
          rw [hpx, if_neg (by rw [decide_eq_false hx]; decide), List.append_nil] at hts
          have Hts := Lib.hid hts
          clear hts hpx hx gw
          go_wp2_with fail
          go_roundw
          case rel => exact ⟨k + 1, by omega, by go_num, Lib.hid (by rw [Hts.out]; exact hrow.out), hb⟩
          case measure => simp [intOf]; omega
      · obtain rfl : k = O.length := by omega
        have hrow' := hrow.out
        rw [List.take_length] at hrow'
        have hwant : RdL (intE .i64) 1 wr.heap.size wr (.slice Ar (O.filter p).length cr) (O.filter p) := RdL.of_own hrow' rfl (fun g hg => (hrow'.lt g hg).2) (fun i hi => ⟨by
          rw [Nat.mul_one, List.drop_eq_getElem_cons (by simpa using hi)]
          simp, by
          obtain ⟨j, hj, he⟩ := List.mem_iff_getElem.1 (List.mem_filter.1 (List.getElem_mem hi)).1
          obtain ⟨_, _, _, _, _, h9⟩ := intE_at Hr9.out hj
          rw [he] at h9
          exact h9⟩)
        have hup := bthen (bthen Hb8.out Hb9.out) hb.out
        have hst : allS f (tt : Int) starL = O.filter p := by
          rw [star_all Hm.out (tt : Int) (fun x hx => Hon.out x (by rw [HO.out]; exact hx)), ← HO.out, Hp2.out]
        have hrl := fun w' (hb' : Below wr.heap.size wr w') => (Hr8.out.below rowE_keeps (w' := w') (bthen (bthen Hb9.out hb.out) hb') (Nat.le_refl _)).mono rowE_keeps (bthen (bthen Hb9.out hb.out) hb').size
        have hall := All_calls wr _ f (Hrd.out wr hup) Hm.out Hsm.out (tt : Int) Hwt.out v8 starL (hrl wr (Below.refl _ _)) star_sm
        have hnil := fun w' (hb' : Below wr.heap.size wr w') => All_calls w' _ f (Hrd.out w' (bthen hup hb')) Hm.out Hsm.out (tt : Int) Hwt.out (.slice none 0 0) [] RdL.nil (fun r hr => by cases hr)
        rw [hst] at hall
        simp only [none_all] at hnil
        have hint := fun w' u (hb' : Below wr.heap.size wr w') (hu : RdL (intE .i64) 1 w'.heap.size w' u (O.filter p)) => FSame.RefInts_calls w' u _ (O.filter p) (O.filter p) hu (hwant.below (intE_keeps _) (w' := w') hb' (Nat.le_refl _) |>.mono (intE_keeps _) hb'.size)
        simp only [decide_true] at hint
        have Hall := Lib.hid hall; have Hnil := Lib.hid hnil; have Hint := Lib.hid hint; have Hup := Lib.hid (bthen Hb7.out hup)
        clear hall hnil hint hup hwant hrow hrow' hst hrl hlt
        try rw [List.take_length]
        go_wp2_with (first | (go_at_call 37; first | ((with_reducible refine (Hall.out).mono ?_); rintro e w20 ⟨u20, rfl, hu20, hb20⟩; have Hu20 := Lib.hid hu20; have Hb20 := Lib.hid hb20; clear hu20 hb20) | ((with_reducible refine (Hnil.out _ Hb21.out).mono ?_); rintro e w22 ⟨u22, rfl, hu22, hb22⟩; obtain ⟨A22, c22, rfl, _, _, _⟩ := id hu22; have Hb22 := Lib.hid (bthen Hb21.out hb22); clear hu22 hb22)) | (go_at_call 41; (with_reducible refine (Hint.out _ _ Hb20.out Hu20.out).mono ?_); rintro e w21 ⟨rfl, hb21⟩; have Hb21 := Lib.hid (bthen Hb20.out hb21); clear hb21))
        go_ret
        exact ⟨rfl, bthen Hup.out Hb22.out⟩
end Go.Proofs.YthdenkkllpkplaaGreat.LStar
end
section
/- find: rows of one step, and of two; selectors of two. No program. -/
namespace Go.Proofs.YthdenkkllpkplaaGreat.Fi
open Go Go.RowKit Go.Proofs.YthdenkkllpkplaaGreat.WS Go.Proofs.YthdenkkllpkplaaGreat.FS Go.Proofs.YthdenkkllpkplaaGreat.Fn Go.Proofs.YthdenkkllpkplaaGreat.Pa Go.Proofs.YthdenkkllpkplaaGreat.Grown
set_option linter.unusedVariables false
theorem getD_rev {l : List Int} {k : Nat} (hk : k < l.length) : l.reverse.getD k 0 = l.getD (l.length - 1 - k) 0 := by
  rw [List.getD_eq_getElem?_getD, List.getElem?_reverse hk, List.getD_eq_getElem?_getD]
theorem one_step (f : Fo) (x : Stp) (way : List Int) (now : List Bool) {k : Nat} (hk : k < way.length) : (stepL f x true way now).getD k false = fitsC (at_ f (way.getD k 0)) x.c := by
  unfold stepL
  rw [List.getD_eq_getElem?_getD, List.getElem?_map, List.getElem?_range hk]
  simp
theorem one_ends (f : Fo) (n : Nat) (i : Int) (hn : 1 ≤ n) (x : Stp) : endsB f (upL f n i).reverse [x] = fitsC (at_ f i) x.c := by
  obtain ⟨m, rfl⟩ : ∃ m, n = m + 1 := ⟨n - 1, by omega⟩
  have hl : (upL f (m + 1) i).reverse.length = m + 1 := by rw [List.length_reverse, up_len]
  unfold endsB endsL endsL
  rw [hl, one_step _ _ _ _ (by omega), getD_rev (by rw [up_len]; omega), up_len]
  simp [upL]
/-- The nodes on the way above. -/
theorem two_ends (f : Fo) (n : Nat) (i : Int) (x y : Stp) : endsB f (upL f (n + 1) i).reverse [x, y] = ((if y.child then decide (0 < n) && fitsC (at_ f (at_ f i).parent) x.c else (upL f n (at_ f i).parent).any (fun k => fitsC (at_ f k) x.c)) && fitsC (at_ f i) y.c) := by
  have hl : (upL f (n + 1) i).reverse.length = n + 1 := by rw [List.length_reverse, up_len]
  unfold endsB endsL endsL endsL
  rw [hl]
  obtain ⟨now, hnow⟩ : ∃ now, now = stepL f x true (upL f (n + 1) i).reverse (List.replicate (n + 1) false) := ⟨_, rfl⟩
  rw [← hnow]
  have hg : (upL f (n + 1) i).reverse.getD n 0 = i := by
    rw [getD_rev (by rw [up_len]; omega), up_len]
    simp [upL]
  have hnl : now = (upL f (n + 1) i).reverse.map (fun k => fitsC (at_ f k) x.c) := by
    rw [hnow]
    refine List.ext_getElem (by rw [stepL_length, List.length_map]) (fun k h1 h2 => ?_)
    rw [stepL_length] at h1
    have := one_step f x (upL f (n + 1) i).reverse (List.replicate (n + 1) false) h1
    rw [List.getD_eq_getElem?_getD, List.getElem?_eq_getElem (by rw [stepL_length]; exact h1), Option.getD_some, List.getD_eq_getElem?_getD, List.getElem?_eq_getElem h1, Option.getD_some] at this
    rw [this, List.getElem_map]
  have e : stepL f y false (upL f (n + 1) i).reverse now = (List.range (n + 1)).map (fun k => (if y.child then decide (0 < k) && now.getD (k - 1) false else (now.take k).any id) && fitsC (at_ f ((upL f (n + 1) i).reverse.getD k 0)) y.c) := by
    unfold stepL
    rw [hl]
    simp
  rw [e, List.getD_eq_getElem?_getD, List.getElem?_map, List.getElem?_range (by omega)]
  simp only [Nat.add_sub_cancel, Option.map_some, Option.getD_some, hg]
  have hch : (decide (0 < n) && now.getD (n - 1) false) = (decide (0 < n) && fitsC (at_ f (at_ f i).parent) x.c) := by
    cases n with
    | zero => rfl
    | succ m =>
      simp only [Nat.add_sub_cancel]
      congr 1
      rw [hnl, List.getD_eq_getElem?_getD, List.getElem?_map, List.getElem?_reverse (by rw [up_len]; omega), up_len]
      simp only [show m + 1 + 1 - 1 - m = 1 by omega]
      simp [upL]
  have hab : (now.take n).any id = (upL f n (at_ f i).parent).any (fun k => fitsC (at_ f k) x.c) := by
    rw [hnl, upL, List.reverse_cons, List.map_append, List.take_append_of_le_length (by rw [List.length_map, List.length_reverse, up_len]; omega), List.take_of_length_le (by rw [List.length_map, List.length_reverse, up_len]; omega), List.any_map, List.any_reverse]
    rfl
  rw [hch, hab]
  simp
theorem mem_up {f : Fo} : ∀ (n : Nat) (i x : Int), Up f n i → (x ∈ upL f n i ↔ 0 ≤ x ∧ ∃ m, FS.Reach f m i x)
  | 0, i, x, h => by
    have h0 : i < 0 := h
    constructor
    · intro hx; cases hx
    · rintro ⟨h1, m, hm⟩
      cases m with
      | zero => have : i = x := hm; omega
      | succ m => have := hm.1; omega
  | n + 1, i, x, h => by
    rw [upL, List.mem_cons, mem_up n _ x h.2]
    constructor
    · rintro (rfl | ⟨h1, m, hm⟩)
      · exact ⟨h.1, 0, rfl⟩
      · exact ⟨h1, m + 1, h.1, hm⟩
    · rintro ⟨h1, m, hm⟩
      cases m with
      | zero => exact .inl hm.symm
      | succ m => exact .inr ⟨h1, m, hm.2⟩
/-- What stands above a node, and fits. -/
def condB (f : Fo) (a : List Tst) (ch : Bool) (id up : Int) : Prop := fitsC (at_ f up) a = true ∧ up ≠ id ∧ belowB f up id = true ∧ (ch = true → (at_ f id).parent = up)
noncomputable def condD (f : Fo) (a : List Tst) (ch : Bool) (id up : Int) : Bool := fitsC (at_ f up) a && decide (up ≠ id) && belowB f up id && (!ch || decide ((at_ f id).parent = up))
theorem condD_iff {f : Fo} {a : List Tst} {ch : Bool} {id up : Int} : condD f a ch id up = true ↔ condB f a ch id up := by
  unfold condD condB
  cases ch <;> simp [and_assoc]
noncomputable def wantB (f : Fo) (a : List Tst) (ch : Bool) (id : Int) (k : Nat) : Bool := (List.range k).any (fun (up : Nat) => condD f a ch id up)
theorem wantB_succ (f : Fo) (a : List Tst) (ch : Bool) (id : Int) (k : Nat) : wantB f a ch id (k + 1) = (wantB f a ch id k || condD f a ch id k) := by
  unfold wantB
  rw [List.range_succ, List.any_append]
  simp
theorem two_is {f : Fo} (hm : mayB f = true) {i : Nat} (hi : i < f.length) (x y : Stp) : isS f i [[x, y]] = (wantB f x.c y.child i f.length && fitsC (at_ f i) y.c) := by
  unfold isS wayOf
  have hn : isNode f (i : Int) = true := nodeI hi
  rw [hn]
  obtain ⟨N, hN⟩ := may_climbs hm i hi
  rw [depthOf_up hN]
  obtain ⟨n, rfl⟩ : ∃ n, N = n + 1 := by
    cases N with
    | zero => have : (i : Int) < 0 := hN; omega
    | succ n => exact ⟨n, rfl⟩
  simp only [List.any_cons, List.any_nil, Bool.or_false, Bool.true_and]
  rw [two_ends]
  congr 1
  have hmay := may_is hm
  have key : ∀ u : Int, (u ∈ upL f n (at_ f (i : Int)).parent ↔ (u ≠ i ∧ belowB f u i = true)) := fun u => by
    rw [mem_up n _ u hN.2, below_iff hm hn]
    constructor
    · rintro ⟨h0, m, h2⟩
      refine ⟨fun e => ?_, h0, m + 1, hN.1, h2⟩
      subst e
      exact no_cycle (m := m) (f := f) (i := (i : Int)) ⟨hN.1, h2⟩ ⟨n + 1, hN⟩
    · rintro ⟨h0, h1, m, h2⟩
      cases m with
      | zero => exact absurd h2.symm h0
      | succ m => exact ⟨h1, m, h2.2⟩
  have hnode : ∀ u : Int, u ∈ upL f n (at_ f (i : Int)).parent → ∃ k : Nat, u = k ∧ k < f.length := fun u hu => node_nat (upL_node hm n _ hN.2 (hmay.par i hi).2.1 u hu)
  unfold wantB
  rw [Bool.eq_iff_iff, List.any_eq_true]
  cases hc : y.child with
  | true =>
    rw [if_pos rfl, Bool.and_eq_true, decide_eq_true_eq]
    constructor
    · rintro ⟨h0, h1⟩
      have hmem : (at_ f (i : Int)).parent ∈ upL f n (at_ f (i : Int)).parent := by
        cases n with
        | zero => omega
        | succ n => simp [upL]
      obtain ⟨k, hk, hkl⟩ := hnode _ hmem
      have h2 := (key _).1 hmem
      rw [hk] at h1 h2
      exact ⟨k, List.mem_range.2 hkl, condD_iff.2 ⟨h1, h2.1, h2.2, fun _ => hk⟩⟩
    · rintro ⟨k, hk, h1⟩
      obtain ⟨h2, _, _, h3⟩ := condD_iff.1 h1
      have h4 := h3 rfl
      refine ⟨?_, by rw [h4]; exact h2⟩
      cases n with
      | zero => have : (at_ f (i : Int)).parent < 0 := hN.2; omega
      | succ n => omega
  | false =>
    rw [if_neg (by decide), List.any_eq_true]
    constructor
    · rintro ⟨u, hu, h1⟩
      obtain ⟨k, rfl, hkl⟩ := hnode u hu
      have h2 := (key _).1 hu
      exact ⟨k, List.mem_range.2 hkl, condD_iff.2 ⟨h1, h2.1, h2.2, fun h => by cases h⟩⟩
    · rintro ⟨k, hk, h1⟩
      obtain ⟨h2, h3, h4, _⟩ := condD_iff.1 h1
      exact ⟨k, (key _).2 ⟨h3, h4⟩, h2⟩
theorem one_is {f : Fo} (hm : mayB f = true) {i : Nat} (hi : i < f.length) (x : Stp) : isS f i [[x]] = fitsC (at_ f i) x.c := by
  unfold isS wayOf
  rw [nodeI hi]
  obtain ⟨N, hN⟩ := may_climbs hm i hi
  rw [depthOf_up hN]
  have h1 : 1 ≤ N := by
    cases N with
    | zero => have : (i : Int) < 0 := hN; omega
    | succ n => omega
  simp only [List.any_cons, List.any_nil, Bool.or_false, Bool.true_and]
  exact one_ends f N _ h1 x
theorem two_sel (f : Fo) (i : Int) (a b : Sel) : isS f i (a ++ b) = (isS f i a || isS f i b) := by
  unfold isS
  rw [List.any_append]
  cases isNode f i <;> simp
theorem fits_more (n : Nd) (c : List Tst) (t : Tst) : fitsC n (c ++ [t]) = (fitsC n c && fitsC n [t]) := by
  unfold fitsC
  rw [List.all_append]
  cases decide (n.kind = 1) <;> simp
theorem two_fits {f : Fo} (hm : mayB f = true) {i : Nat} (hi : i < f.length) (x y : Stp) (h : isS f i [[x, y]] = true) : fitsC (at_ f i) y.c = true := by
  rw [two_is hm hi, Bool.and_eq_true] at h
  exact h.2
end Go.Proofs.YthdenkkllpkplaaGreat.Fi
end
section
/- treillagelaw10.few. -/
namespace Go.Proofs.YthdenkkllpkplaaGreat.Fi
open Go Go.RowKit Go.Proofs.YthdenkkllpkplaaGreat.Seq Go.Proofs.YthdenkkllpkplaaGreat.WS Go.Proofs.YthdenkkllpkplaaGreat.FS Go.Proofs.YthdenkkllpkplaaGreat.Mem Go.Proofs.YthdenkkllpkplaaGreat.Rd Go.Proofs.YthdenkkllpkplaaGreat.Shapes Go.Proofs.YthdenkkllpkplaaGreat.Word Go.Proofs.YthdenkkllpkplaaGreat.FFam Go.Proofs.YthdenkkllpkplaaGreat.Grown
set_option linter.unusedVariables false
set_option linter.unusedSimpArgs false
def smT (t : Tst) : Bool := decide (t.name.size ≤ 100) && decide (t.value.size ≤ 100)
def cntS (r : Sro) : Nat := (r.map (fun x => x.c.length + 1)).sum
def cntL (l : Sel) : Nat := (l.map (fun r => cntS r + 1)).sum
def smL (l : Sel) : Bool := l.all (fun r => r.all (fun x => x.c.all smT))
/-- A selector that is not too long (as the law counts it). -/
def fewB (l : Sel) : Bool := smL l && decide (wrap64 (cntL l) ≤ 40)
theorem wrap_one (n : Nat) : wrap64 (wrap64 (n : Int) + 1) = wrap64 ((n + 1 : Nat) : Int) := by unfold wrap64; omega
theorem cntS_succ {r : Sro} {k : Nat} (h : k < r.length) : cntS (r.take (k + 1)) = cntS (r.take k) + r[k].c.length + 1 := by
  unfold cntS
  rw [List.take_succ_eq_append_getElem h, List.map_append, List.sum_append]
  simp
  omega
theorem cntL_succ {l : Sel} {k : Nat} (h : k < l.length) : cntL (l.take (k + 1)) = cntL (l.take k) + cntS l[k] + 1 := by
  unfold cntL
  rw [List.take_succ_eq_append_getElem h, List.map_append, List.sum_append]
  simp
  omega
theorem smL_no {l : Sel} {i k m : Nat} (hi : i < l.length) (hk : k < l[i].length) (hm : m < l[i][k].c.length) (h : smT l[i][k].c[m] = false) : fewB l = false := by
  have : smL l = false := by
    cases hs : smL l with
    | false => rfl
    | true =>
      unfold smL at hs
      rw [List.all_eq_true] at hs
      have h1 := hs _ (List.getElem_mem hi)
      rw [List.all_eq_true] at h1
      have h2 := h1 _ (List.getElem_mem hk)
      rw [List.all_eq_true] at h2
      rw [h2 _ (List.getElem_mem hm)] at h
      cases h
  unfold fewB
  rw [this]
  rfl
set_option maxRecDepth 100000 in
set_option maxHeartbeats 8000000 in
theorem few_calls (w : World) (v : Value) (l : Sel) (h : RdSel w.heap.size w v l) : Calls Tryz.prog 33 #[v] w fun e w' => e = .returned (.bool (fewB l)) ∧ w = w' := by
  obtain ⟨A0, c0, rfl, hl0, hc0, h'⟩ := h.form
  simp only [maxLen] at hc0
  have Hh := Lib.hid h'
  have hno := fun i k m (hi : i < l.length) (hk : k < l[i].length) (hm : m < l[i][k].c.length) hx => smL_no (l := l) hi hk hm hx
  have Hno := Lib.hid hno
  have hz0 : (0 : Int) = wrap64 ((cntL (l.take 0) : Nat) : Int) := by simp [cntL, wrap64]
  have Hz0 := Lib.hid hz0
  clear h h' hno hz0
  go_enter Tryz.func33, Tryz.ntmps33
  go_wp2_with fail
  go_loop [3, 4] (fun u i => ∃ (k : Nat) (x : Int), k ≤ l.length ∧ i = .int .i64 k ∧ u = .int .i64 x ∧ Hid (x = wrap64 ((cntL (l.take k) : Nat) : Int)) ∧ Hid (smL (l.take k) = true)) (fun _ i => l.length - (intOf i).toNat)
  case atStart => exact ⟨0, 0, Nat.zero_le _, rfl, rfl, Hz0, Lib.hid rfl⟩
  case round =>
    obtain ⟨i, x, hi, rfl, rfl, hx, hs⟩ := hrel
    by_cases hil : i < l.length
    · obtain ⟨bo, oo, Ar, cr, rfl, _, r0, hrow, lr1, lr2⟩ := row_at Hh.out hil
      have hsl : (l.take (i + 1)) = l.take i ++ [l[i]] := List.take_succ_eq_append_getElem hil
      have hcl := cntL_succ hil
      have Hr := Lib.hid hrow; have Hsl := Lib.hid hsl; have Hcl := Lib.hid hcl
      simp only [maxLen] at lr2
      have Hn1 := Lib.hid (fun k m hk hm hx => Hno.out i k m hil hk hm hx)
      clear hrow hsl hcl
      generalize l[i] = r at *
      go_wp2_with fail
      go_loop [3, 5] (fun u i' => ∃ (k : Nat) (y : Int), k ≤ r.length ∧ i' = .int .i64 k ∧ u = .int .i64 y ∧ Hid (y = wrap64 ((cntL (l.take i) + cntS (r.take k) : Nat) : Int)) ∧ Hid ((r.take k).all (fun x => x.c.all smT) = true)) (fun _ i' => r.length - (intOf i').toNat)
      case atStart => exact ⟨0, x, Nat.zero_le _, rfl, rfl, Lib.hid (by rw [hx.out]; simp [cntS]), Lib.hid rfl⟩
      case round =>
        obtain ⟨k, y, hk, rfl, rfl, hy, hs2⟩ := hrel
        by_cases hkl : k < r.length
        · obtain ⟨bs, os, At, ct, rfl, _, s0, _, htst, lt1, lt2⟩ := step_at Hr.out hkl
          have hsr : (r.take (k + 1)) = r.take k ++ [r[k]] := List.take_succ_eq_append_getElem hkl
          have hcr := cntS_succ hkl
          have Ht := Lib.hid htst; have Hsr := Lib.hid hsr; have Hcr := Lib.hid hcr
          simp only [maxLen] at lt2
          have Hn2 := Lib.hid (fun m hm hx => Hn1.out k m hkl hm hx)
          clear htst hsr hcr
          generalize r[k] = st at *
          go_wp2_with fail
          go_loop [3, 6] (fun u i' => ∃ (m : Nat) (z : Int), m ≤ st.c.length ∧ i' = .int .i64 m ∧ u = .int .i64 z ∧ Hid (z = wrap64 ((cntL (l.take i) + cntS (r.take k) + m : Nat) : Int)) ∧ Hid ((st.c.take m).all smT = true)) (fun _ i' => st.c.length - (intOf i').toNat)
          case atStart => exact ⟨0, y, Nat.zero_le _, rfl, rfl, Lib.hid (by rw [hy.out]; rfl), Lib.hid rfl⟩
          case round =>
            obtain ⟨m, z, hm, rfl, rfl, hz, hs3⟩ := hrel
            by_cases hml : m < st.c.length
            · obtain ⟨bt, ot, rfl, _, _, t1, t2, m1, m2, _⟩ := test_at Ht.out hml
              have hst : (st.c.take (m + 1)) = st.c.take m ++ [st.c[m]] := List.take_succ_eq_append_getElem hml
              have Hst := Lib.hid hst
              have Hn3 := Lib.hid (fun hx => Hn2.out m hml hx)
              simp only [maxLen] at m1 m2
              clear hst
              generalize st.c[m] = t at *
              by_cases h1 : t.name.size ≤ 100
              · by_cases h2 : t.value.size ≤ 100
                · have hx : smT t = true := by unfold smT; rw [decide_eq_true h1, decide_eq_true h2]; rfl
                  have Hx := Lib.hid hx
                  clear hx
                  go_wp2_with fail
                  go_round
                  case rel => exact ⟨m + 1, _, by omega, by go_num, rfl, Lib.hid (by rw [hz.out]; exact wrap_one _), Lib.hid (by rw [Hst.out, List.all_append, hs3.out]; simp [Hx.out])⟩
                  case measure => simp [intOf]; omega
                · have hx : smT t = false := by unfold smT; rw [decide_eq_false h2]; simp
                  have Hx := Lib.hid hx
                  clear hx
                  go_wp2_with fail
                  go_ret
                  exact ⟨by rw [Hn3.out Hx.out]; rfl, rfl⟩
              · have hx : smT t = false := by unfold smT; rw [decide_eq_false h1]; rfl
                have Hx := Lib.hid hx
                clear hx
                go_wp2_with fail
                go_ret
                exact ⟨by rw [Hn3.out Hx.out]; rfl, rfl⟩
            · obtain rfl : m = st.c.length := by omega
              go_wp2_with fail
              go_round
              case rel => exact ⟨k + 1, _, by omega, by go_num, rfl, Lib.hid (by rw [hz.out, wrap_one, Hcr.out]; congr 2; omega), Lib.hid (by
                have := hs3.out
                rw [List.take_length] at this
                rw [Hsr.out, List.all_append, hs2.out]
                simp [this])⟩
              case measure => simp [intOf]; omega
        · obtain rfl : k = r.length := by omega
          go_wp2_with fail
          go_round
          case rel => exact ⟨i + 1, _, by omega, by go_num, rfl, Lib.hid (by rw [hy.out, wrap_one, Hcl.out, List.take_length]), Lib.hid (by
            have := hs2.out
            rw [List.take_length] at this
            have h4 := hs.out
            unfold smL at h4 ⊢
            rw [Hsl.out, List.all_append, h4]
            simp [this])⟩
          case measure => simp [intOf]; omega
    · obtain rfl : i = l.length := by omega
      have hr : fewB l = decide (x ≤ 40) := by
        have h1 := hx.out
        have h2 := hs.out
        rw [List.take_length] at h1 h2
        unfold fewB
        rw [h2, h1, Bool.true_and]
      have Hr := Lib.hid hr
      clear hr hx hs
      go_wp2_with fail
      go_ret
      exact ⟨by rw [Hr.out]; rfl, rfl⟩
end Go.Proofs.YthdenkkllpkplaaGreat.Fi
end
section
/- Selectors as arguments: how they are read, and how long their rows may be. -/
namespace Go.Proofs.YthdenkkllpkplaaGreat.Shapes
open Go Go.RowKit Go.Deep Go.Proofs.YthdenkkllpkplaaGreat.Rd
open Go.Proofs.YthdenkkllpkplaaGreat.FS (Av Nd Fo Tst Stp Sro Sel)
set_option linter.unusedVariables false
section
variable {H : Type} {enc : TypeId × Value → H} {P : Program} {w : World} {base : Nat} {spare : Nat → Bool} {held : Bool} {α : Type} {E : Elem α} {Z : α → Prop}
/-- Of what is read every part is of so many bytes at the most. -/
def Few (P : Program) (t : TypeId) (d : DataW H) : Prop := (d.weights P t).all (· ≤ reachBytes) = true
def OpensZ (enc : TypeId × Value → H) (P : Program) (w : World) (base : Nat) (spare : Nat → Bool) (held : Bool) (e : TypeId) (E : Elem α) (Z : α → Prop) : Prop :=
  ∀ (fuel : Nat) (cs : List Value) (x : DataW H × List MemPlace), DataW.trod enc P w base spare held fuel e cs = some x → Few P e x.1 → ∃ a, E w.heap.size w cs a ∧ Z a
theorem Opens.z {e : TypeId} (h : Opens enc P w base spare held e E) : OpensZ enc P w base spare held e E (fun _ => True) := fun fuel cs x hx _ => by
  obtain ⟨a, ha⟩ := h fuel cs x hx
  exact ⟨a, ha, trivial⟩
theorem few_slice {t e : TypeId} {elems spares : List (DataW H)} (ht : P.underlying t = some (.slice e)) (h : Few P t (.slice elems spares)) : elems.length * P.bytesOf e ≤ reachBytes ∧ ∀ d ∈ elems, Few P e d := by
  unfold Few at h
  simp only [DataW.weights, ht, List.all_cons, List.all_append, Bool.and_eq_true, decide_eq_true_eq] at h
  obtain ⟨h1, h2, _⟩ := h
  refine ⟨Nat.le_trans (Nat.mul_le_mul_right _ (Nat.le_add_right _ _)) h1, ?_⟩
  have key : ∀ l : List (DataW H), (DataW.weightsAll P e l).all (· ≤ reachBytes) = true → ∀ d ∈ l, Few P e d := fun l => by
    induction l with
    | nil => intro _ d hd; cases hd
    | cons x l ih =>
      intro hx d hd
      simp only [DataW.weightsAll, List.all_append, Bool.and_eq_true] at hx
      rcases List.mem_cons.1 hd with rfl | hd
      · exact hx.1
      · exact ih hx.2 d hd
  exact key _ h2
theorem open_cellsZ {t e : TypeId} {fuel : Nat} {cs : List Value} {x : DataW H × List MemPlace} (ht : P.underlying t = some (.slice e)) (hp : 0 < P.cellsOf e) (hE : OpensZ enc P w base spare held e E Z)
    (h : DataW.trod enc P w base spare held fuel t cs = some x) (hw : Few P t x.1) : ∃ (v : Value) (l : List α), cs = [v] ∧ RdL E (P.cellsOf e) w.heap.size w v l ∧ l.length * P.bytesOf e ≤ reachBytes ∧ ∀ a ∈ l, Z a := by
  rcases Deep.open_slice ht h with ⟨rfl, _⟩ | ⟨a, len, cap, m, n, D, Pl, rfl, hb, hl, hm, hmm, rfl, hx⟩
  · exact ⟨_, [], rfl, RdL.nil, by simp, fun a ha => by cases ha⟩
  · have hlm : len ≤ m := by rw [hmm]; split <;> omega
    obtain ⟨hw1, hw2⟩ := few_slice ht hw
    rw [List.length_map, List.length_range] at hw1
    have hwd : ∀ k, k < len → Few P e (D k) := fun k hk => hw2 _ (List.mem_map.2 ⟨k, List.mem_range.2 hk, rfl⟩)
    have key : ∀ k, k ≤ len → ∃ l : List α, l.length = k ∧ (∀ a ∈ l, Z a) ∧ ∀ i (hi : i < l.length), ∃ cs : List Value, cs.length = P.cellsOf e ∧ (∀ j u, cs[j]? = some u → w.cell? (a.add (i * P.cellsOf e + j)) = some u) ∧ E w.heap.size w cs l[i] := by
      intro k
      induction k with
      | zero => exact fun _ => ⟨[], rfl, fun a ha => (by cases ha), fun i hi => absurd hi (by simp)⟩
      | succ k ih =>
        intro hk
        obtain ⟨l, h1, hz, h2⟩ := ih (by omega)
        obtain ⟨cs', h3, h4⟩ := hx k (by omega)
        obtain ⟨y, hy, hzy⟩ := hE _ _ _ h4 (hwd k (by omega))
        obtain ⟨_, hcl, hat⟩ := World.cells?_some h3
        refine ⟨l ++ [y], by simp [h1], fun b hb => ?_, fun i hi => ?_⟩
        · rw [List.mem_append, List.mem_singleton] at hb
          rcases hb with hb | rfl
          · exact hz b hb
          · exact hzy
        · by_cases hil : i < l.length
          · obtain ⟨cs, g1, g2, g3⟩ := h2 i hil
            exact ⟨cs, g1, g2, by rw [List.getElem_append_left hil]; exact g3⟩
          · have : i = k := by simp at hi; omega
            subst this
            refine ⟨cs', hcl, fun j u hj => ?_, by rw [List.getElem_append_right (by omega)]; simp [h1]; exact hy⟩
            have hjl : j < P.cellsOf e := by have := (List.getElem?_eq_some_iff.1 hj).1; omega
            rw [← Deep.add_add, hat j hjl, hj]
    obtain ⟨l, rfl, hz, h2⟩ := key len (Nat.le_refl _)
    refine ⟨_, l, rfl, ⟨_, cap, rfl, hl, hm, fun h0 => ?_⟩, hw1, hz⟩
    obtain ⟨cs', h3, _⟩ := hx 0 (by omega)
    have hblk := World.cells?_block h3 hp
    rw [add_block] at hblk
    obtain ⟨_, hcl, hat⟩ := World.cells?_some h3
    have h0c := hat 0 hp
    have hspot : a.spot = none := by
      have hv : cs'[0]? = some (cs'[0]'(by omega)) := List.getElem?_eq_getElem (by omega)
      rw [hv] at h0c
      simpa [Addr.add] using World.cell?_spot h0c
    obtain ⟨b, o, s⟩ := a
    simp only at hspot
    subst hspot
    refine ⟨b, o, rfl, hblk, fun i hi => ?_⟩
    obtain ⟨cs, g1, g2, g3⟩ := h2 i hi
    refine ⟨cs, g1, fun j u hj => ?_, g3⟩
    have := g2 j u hj
    rwa [Addr.add_lit, ← Nat.add_assoc] at this
theorem opens_sliceZ {t e : TypeId} (sz by_ : Nat) (ht : P.underlying t = some (.slice e)) (hc : P.cellsOf e = sz) (hby : P.bytesOf e = by_) (hp : 0 < sz) (hE : OpensZ enc P w base spare held e E Z) :
    OpensZ enc P w base spare held t (fun B w cs (l : List α) => ∃ v, cs = [v] ∧ RdL E sz B w v l) (fun l => l.length * by_ ≤ reachBytes ∧ ∀ a ∈ l, Z a) := fun fuel cs x h hw => by
  subst hc hby
  obtain ⟨v, l, h1, h2, h3⟩ := open_cellsZ ht hp hE h hw
  exact ⟨l, ⟨v, h1, h2⟩, h3⟩
theorem open_listZ {t e : TypeId} {r : Reach} {b0 : Nat} {v : Value} {d : DataW H} {p : List MemPlace} (sz by_ : Nat) (ht : P.underlying t = some (.slice e)) (hc : P.cellsOf e = sz) (hby : P.bytesOf e = by_) (hp : 0 < sz) (hE : OpensZ enc P w base spare held e E Z)
    (hv : Value.okWide P w r b0 t v) (h : DataW.Trod enc P w base spare held t v d p) (hw : Few P t d) : ∃ l : List α, RdL E sz w.heap.size w v l ∧ l.length * by_ ≤ reachBytes ∧ ∀ a ∈ l, Z a := by
  obtain ⟨A, n, c, rfl⟩ := Go.WideShapes.okWide_slice ht hv
  obtain ⟨fuel, hf⟩ := h
  subst hc hby
  obtain ⟨v', l, h1, h2, h3⟩ := open_cellsZ ht hp hE hf hw
  simp [Value.cells] at h1
  subst h1
  exact ⟨l, h2, h3⟩
theorem opens_test {e : TypeId} {f0 f1 f2 : Field} (hs : P.underlying e = some (.struct #[f0, f1, f2])) (hone : oneCellFields P #[f0, f1, f2] = true) (hC : P.cellsOf e = 3) (h0 : P.underlying f0.type = some (.int .i64)) (h1 : P.underlying f1.type = some .string) (h2 : P.underlying f2.type = some .string) :
    Opens enc P w base spare held e testE := fun fuel cs x h => by
  obtain ⟨xs, n, _, hx, hlc, hlen, hg⟩ := DataW.trod_struct hs h
  rw [hC] at hlc
  match cs, hlc with
  | [c0, c1, c2], _ =>
    obtain ⟨o0, k0⟩ := hone_of hone 0 f0 rfl
    obtain ⟨o1, k1⟩ := hone_of hone 1 f1 rfl
    obtain ⟨o2, k2⟩ := hone_of hone 2 f2 rfl
    match xs, hlen with
    | [y0, y1, y2], _ =>
      have g0 := hg 0 f0 rfl
      have g1 := hg 1 f1 rfl
      have g2 := hg 2 f2 rfl
      simp [o0, k0] at g0
      simp [o1, k1] at g1
      simp [o2, k2] at g2
      obtain ⟨z0, e0, _, m0⟩ := DataW.trod_int h0 g0
      obtain ⟨z1, e1, _, m1⟩ := DataW.trod_string h1 g1
      obtain ⟨z2, e2, _, m2⟩ := DataW.trod_string h2 g2
      simp at e0 e1 e2
      exact ⟨⟨z0, z1, z2⟩, by rw [e0, e1, e2], m1, m2, m0⟩
/-- How long the tests of a step may be. -/
def ZStp (x : Stp) : Prop := x.c.length * 40 ≤ reachBytes
theorem opens_step {e ea et : TypeId} {f0 f1 : Field} (hs : P.underlying e = some (.struct #[f0, f1])) (hone : oneCellFields P #[f0, f1] = true) (hC : P.cellsOf e = 2) (h0 : P.underlying f0.type = some (.slice et)) (h1 : P.underlying f1.type = some .bool)
    (hct : P.cellsOf et = 3) (hbt : P.bytesOf et = 40) (hot : Opens enc P w base spare held et testE) : OpensZ enc P w base spare held e stepE ZStp := fun fuel cs x h hw => by
  obtain ⟨xs, n, _, hx, hlc, hlen, hg⟩ := DataW.trod_struct hs h
  rw [hC] at hlc
  match cs, hlc with
  | [c0, c1], _ =>
    obtain ⟨o0, k0⟩ := hone_of hone 0 f0 rfl
    obtain ⟨o1, k1⟩ := hone_of hone 1 f1 rfl
    match xs, hlen with
    | [y0, y1], _ =>
      have g0 := hg 0 f0 rfl
      have g1 := hg 1 f1 rfl
      simp [o0, k0] at g0
      simp [o1, k1] at g1
      have hw0 : Few P f0.type y0.1 := by
        unfold Few at hw ⊢
        rw [hx] at hw
        simp only [List.map_cons, List.map_nil, DataW.weights, hs, DataW.weightsEach, List.all_append, Bool.and_eq_true] at hw
        exact hw.1
      obtain ⟨l0, ⟨v0, e0, m0⟩, z0, _⟩ := opens_sliceZ 3 40 h0 hct hbt (by omega) (Opens.z hot) _ _ _ g0 hw0
      obtain ⟨b1, e1, _⟩ := DataW.trod_bool h1 g1
      simp at e0 e1
      exact ⟨⟨l0, b1⟩, ⟨v0, by rw [e0, e1], m0⟩, z0⟩
theorem opens_stepU {e et : TypeId} {f0 f1 : Field} (hs : P.underlying e = some (.struct #[f0, f1])) (hone : oneCellFields P #[f0, f1] = true) (hC : P.cellsOf e = 2) (h0 : P.underlying f0.type = some (.slice et)) (h1 : P.underlying f1.type = some .bool)
    (hct : P.cellsOf et = 3) (hot : Opens enc P w base spare held et testE) : Opens enc P w base spare held e stepE := fun fuel cs x h => by
  obtain ⟨xs, n, _, hx, hlc, hlen, hg⟩ := DataW.trod_struct hs h
  rw [hC] at hlc
  match cs, hlc with
  | [c0, c1], _ =>
    obtain ⟨o0, k0⟩ := hone_of hone 0 f0 rfl
    obtain ⟨o1, k1⟩ := hone_of hone 1 f1 rfl
    match xs, hlen with
    | [y0, y1], _ =>
      have g0 := hg 0 f0 rfl
      have g1 := hg 1 f1 rfl
      simp [o0, k0] at g0
      simp [o1, k1] at g1
      obtain ⟨l0, v0, e0, m0⟩ := opens_slice 3 h0 hct (by omega) hot _ _ _ g0
      obtain ⟨b1, e1, _⟩ := DataW.trod_bool h1 g1
      simp at e0 e1
      exact ⟨⟨l0, b1⟩, v0, by rw [e0, e1], m0⟩
theorem opens_sel_Test {enc : TypeId × Value → H} {w : World} : Opens enc Tryz.prog w base spare held 102 testE :=
  opens_test Tryz.underlying102 (by kernel_rfl) (by kernel_rfl) Tryz.underlying3 Tryz.underlying9 Tryz.underlying9
set_option maxRecDepth 100000 in
theorem opens_sel_Step {enc : TypeId × Value → H} {w : World} : OpensZ enc Tryz.prog w base spare held 82 stepE ZStp :=
  opens_step (ea := 0) Tryz.underlying82 (by kernel_rfl) (by kernel_rfl) Tryz.underlying80 Tryz.underlying4 (by kernel_rfl) (by kernel_rfl) opens_sel_Test
/-- How long the rows of a selector may be. -/
def ZSel (l : Sel) : Prop := l.length * 24 ≤ reachBytes ∧ ∀ r ∈ l, r.length * 32 ≤ reachBytes ∧ ∀ x ∈ r, ZStp x
set_option maxRecDepth 100000 in
theorem opens_row {enc : TypeId × Value → H} {w : World} : OpensZ enc Tryz.prog w base spare held 77 rowE (fun r => r.length * 32 ≤ reachBytes ∧ ∀ x ∈ r, ZStp x) :=
  opens_sliceZ 2 32 Tryz.underlying77 (by kernel_rfl) (by kernel_rfl) (by omega) opens_sel_Step
set_option maxRecDepth 100000 in
theorem open_sel {enc : TypeId × Value → H} {w : World} {r : Reach} {b0 : Nat} {v : Value} {d : DataW H} {p : List MemPlace} (hv : Value.okWide Tryz.prog w r b0 63 v) (h : DataW.Trod enc Tryz.prog w base spare held 63 v d p) (hw : Few Tryz.prog 63 d) :
    ∃ l : Sel, RdSel w.heap.size w v l ∧ ZSel l := by
  obtain ⟨l, h1, h2, h3⟩ := open_listZ 1 24 Tryz.underlying63 (by kernel_rfl) (by kernel_rfl) (by omega) opens_row hv h hw
  exact ⟨l, h1, h2, h3⟩
set_option maxRecDepth 100000 in
theorem open_selU {enc : TypeId × Value → H} {w : World} {r : Reach} {b0 : Nat} {v : Value} {d : DataW H} {p : List MemPlace} (hv : Value.okWide Tryz.prog w r b0 63 v) (h : DataW.Trod enc Tryz.prog w base spare held 63 v d p) : ∃ l : Sel, RdSel w.heap.size w v l :=
  open_list 1 Tryz.underlying63 (by kernel_rfl) (by decide) (opens_slice 2 Tryz.underlying77 (by kernel_rfl) (by omega) (opens_stepU Tryz.underlying82 (by kernel_rfl) (by kernel_rfl) Tryz.underlying80 Tryz.underlying4 (by kernel_rfl) opens_sel_Test)) hv h
end
/-- A test by value. -/
theorem open_test {H : Type} {P : Program} {enc : TypeId × Value → H} {w : World} {base b0 : Nat} {spare : Nat → Bool} {held : Bool} {r : Reach} {e : TypeId} {fs : Array Field} {v : Value} {d : DataW H} {p : List MemPlace} (hs : P.underlying e = some (.struct fs)) (hE : Opens enc P w base spare held e testE)
    (hv : Value.okWide P w r b0 e v) (h : DataW.Trod enc P w base spare held e v d p) : ∃ t : Tst, v = .agg #[.int .i64 t.kind, .string t.name, .string t.value] ∧ t.name.size ≤ maxLen ∧ t.value.size ≤ maxLen ∧ (Lit.int .i64 t.kind).wf = true := by
  obtain ⟨cs, rfl, hsz⟩ := Go.WideShapes.okWide_struct hs hv
  obtain ⟨fuel, hf⟩ := h
  obtain ⟨o, ho, hk⟩ := hE fuel _ _ hf
  refine ⟨o, ?_, hk⟩
  have hc : cs.toList = [.int .i64 o.kind, .string o.name, .string o.value] := by simpa [Value.cells] using ho
  show Value.agg cs = _
  rw [← Array.toArray_toList (xs := cs), hc]
end Go.Proofs.YthdenkkllpkplaaGreat.Shapes
end
section
/- Selectors that are written out: how they read. -/
namespace Go.Proofs.YthdenkkllpkplaaGreat.Fi
open Go Go.RowKit Go.Proofs.YthdenkkllpkplaaGreat.Seq Go.Proofs.YthdenkkllpkplaaGreat.WS Go.Proofs.YthdenkkllpkplaaGreat.FS Go.Proofs.YthdenkkllpkplaaGreat.Mem Go.Proofs.YthdenkkllpkplaaGreat.Rd Go.Proofs.YthdenkkllpkplaaGreat.Shapes Go.Proofs.YthdenkkllpkplaaGreat.Word Go.Proofs.YthdenkkllpkplaaGreat.FFam
set_option linter.unusedVariables false
set_option linter.unusedSimpArgs false
theorem row_lit1 {w : World} {b : Nat} {va : Value} {a : List Tst} {ca : Bool} {T : TypeId} (h : w.heap[b]? = some (.cells #[va, .bool ca] T (0, 0))) (ha : RdL testE 3 w.heap.size w va a) : RdL stepE 2 w.heap.size w (.slice (some ⟨b, 0, none⟩) 1 1) [{ c := a, child := ca }] := by
  have l1 := lt_heap h
  refine ⟨_, 1, rfl, Nat.le_refl _, by decide, fun h0 => ⟨b, 0, rfl, l1, fun i hi => ?_⟩⟩
  obtain rfl : i = 0 := by simp at hi; exact hi
  refine ⟨[va, .bool ca], rfl, fun j u hj => ?_, va, rfl, ha⟩
  rw [cell_of_row _ _ _ _ _ _ h]
  match j with
  | 0 => simpa using hj
  | 1 => simpa using hj
  | j + 2 => simp at hj
theorem row_lit2 {w : World} {b : Nat} {va vb : Value} {a c : List Tst} {ca cb : Bool} {T : TypeId} (h : w.heap[b]? = some (.cells #[va, .bool ca, vb, .bool cb] T (0, 0))) (ha : RdL testE 3 w.heap.size w va a) (hc : RdL testE 3 w.heap.size w vb c) :
    RdL stepE 2 w.heap.size w (.slice (some ⟨b, 0, none⟩) 2 2) [{ c := a, child := ca }, { c := c, child := cb }] := by
  have l1 := lt_heap h
  refine ⟨_, 2, rfl, Nat.le_refl _, by decide, fun h0 => ⟨b, 0, rfl, l1, fun i hi => ?_⟩⟩
  have hi2 : i < 2 := hi
  match i, hi2 with
  | 0, _ =>
    refine ⟨[va, .bool ca], rfl, fun j u hj => ?_, va, rfl, ha⟩
    rw [cell_of_row _ _ _ _ _ _ h]
    match j with
    | 0 => simpa using hj
    | 1 => simpa using hj
    | j + 2 => simp at hj
  | 1, _ =>
    refine ⟨[vb, .bool cb], rfl, fun j u hj => ?_, vb, rfl, hc⟩
    rw [cell_of_row _ _ _ _ _ _ h]
    match j with
    | 0 => simpa using hj
    | 1 => simpa using hj
    | j + 2 => simp at hj
theorem sel_lit {w : World} {b n : Nat} {A : Option Addr} {r : Sro} {T : TypeId} (h : w.heap[b]? = some (.cells #[.slice A n n] T (0, 0))) (hr : RdL stepE 2 w.heap.size w (.slice A n n) r) : RdSel w.heap.size w (.slice (some ⟨b, 0, none⟩) 1 1) [r] := by
  have l1 := lt_heap h
  refine ⟨_, 1, rfl, Nat.le_refl _, by decide, fun h0 => ⟨b, 0, rfl, l1, fun i hi => ?_⟩⟩
  obtain rfl : i = 0 := by simp at hi; exact hi
  refine ⟨[.slice A n n], rfl, fun j u hj => ?_, _, rfl, hr⟩
  rw [cell_of_row _ _ _ _ _ _ h]
  match j with
  | 0 => simpa using hj
  | j + 1 => simp at hj
/-- The worlds behind a selector of one step, and of two. -/
theorem lit_one {w w' : World} {va : Value} {a : List Tst} (hw : (w.alloc (.cells #[va, .bool false] 82)).alloc (.cells #[.slice (some ⟨w.heap.size, 0, none⟩) 1 1] 77) = w') (ha : RdL testE 3 w.heap.size w va a) :
    RdSel w'.heap.size w' (.slice (some ⟨w.heap.size + 1, 0, none⟩) 1 1) [[{ c := a }]] ∧ Below w.heap.size w w' ∧ w'.heap.size = w.heap.size + 2 := by
  have hb0 : Below w.heap.size w w' := by rw [← hw]; exact ((Below.refl _ _).alloc (Nat.le_refl _) _).alloc (by simp) _
  have q0 : w'.heap[w.heap.size]? = some (.cells #[va, .bool false] 82 (0, 0)) := by rw [← hw]; exact heap_old (World.alloc_heap_new w _)
  have q1 : w'.heap[w.heap.size + 1]? = some (.cells #[.slice (some ⟨w.heap.size, 0, none⟩) 1 1] 77 (0, 0)) := by rw [← hw]; exact heap_new (by simp)
  exact ⟨sel_lit q1 (row_lit1 q0 ((ha.below testE_keeps hb0 (Nat.le_refl _)).mono testE_keeps hb0.size)), hb0, by rw [← hw]; simp⟩
theorem lit_two {w w' : World} {va vb : Value} {a c : List Tst} {ch : Bool} (hw : (w.alloc (.cells #[va, .bool false, vb, .bool ch] 82)).alloc (.cells #[.slice (some ⟨w.heap.size, 0, none⟩) 2 2] 77) = w') (ha : RdL testE 3 w.heap.size w va a) (hc : RdL testE 3 w.heap.size w vb c) :
    RdSel w'.heap.size w' (.slice (some ⟨w.heap.size + 1, 0, none⟩) 1 1) [[{ c := a }, { c := c, child := ch }]] ∧ Below w.heap.size w w' ∧ w'.heap.size = w.heap.size + 2 := by
  have hb0 : Below w.heap.size w w' := by rw [← hw]; exact ((Below.refl _ _).alloc (Nat.le_refl _) _).alloc (by simp) _
  have q0 : w'.heap[w.heap.size]? = some (.cells #[va, .bool false, vb, .bool ch] 82 (0, 0)) := by rw [← hw]; exact heap_old (World.alloc_heap_new w _)
  have q1 : w'.heap[w.heap.size + 1]? = some (.cells #[.slice (some ⟨w.heap.size, 0, none⟩) 2 2] 77 (0, 0)) := by rw [← hw]; exact heap_new (by simp)
  exact ⟨sel_lit q1 (row_lit2 q0 ((ha.below testE_keeps hb0 (Nat.le_refl _)).mono testE_keeps hb0.size) ((hc.below testE_keeps hb0 (Nat.le_refl _)).mono testE_keeps hb0.size)), hb0, by rw [← hw]; simp⟩
/-- A row of one test. -/
theorem one_test {w : World} {b : Nat} {t : Tst} {T : TypeId} (h : w.heap[b]? = some (.cells #[.int .i64 t.kind, .string t.name, .string t.value] T (0, 0))) (hk : t.name.size ≤ maxLen ∧ t.value.size ≤ maxLen ∧ (Lit.int .i64 t.kind).wf = true) : RdL testE 3 w.heap.size w (.slice (some ⟨b, 0, none⟩) 1 1) [t] := by
  have l1 := lt_heap h
  refine ⟨_, 1, rfl, Nat.le_refl _, by decide, fun h0 => ⟨b, 0, rfl, l1, fun i hi => ?_⟩⟩
  obtain rfl : i = 0 := by simp at hi; exact hi
  refine ⟨[.int .i64 t.kind, .string t.name, .string t.value], rfl, fun j u hj => ?_, rfl, hk.1, hk.2.1, hk.2.2⟩
  rw [cell_of_row _ _ _ _ _ _ h]
  match j with
  | 0 => simpa using hj
  | 1 => simpa using hj
  | 2 => simpa using hj
  | j + 3 => simp at hj
end Go.Proofs.YthdenkkllpkplaaGreat.Fi
end
section
/- A node of a forest, as Fits is asked of it. -/
namespace Go.Proofs.YthdenkkllpkplaaGreat.Fi
open Go Go.RowKit Go.Proofs.YthdenkkllpkplaaGreat.Seq Go.Proofs.YthdenkkllpkplaaGreat.WS Go.Proofs.YthdenkkllpkplaaGreat.FS Go.Proofs.YthdenkkllpkplaaGreat.Mem Go.Proofs.YthdenkkllpkplaaGreat.Rd Go.Proofs.YthdenkkllpkplaaGreat.Shapes Go.Proofs.YthdenkkllpkplaaGreat.Word Go.Proofs.YthdenkkllpkplaaGreat.FFam Go.Proofs.YthdenkkllpkplaaGreat.Fn
set_option linter.unusedVariables false
set_option linter.unusedSimpArgs false
/-- The six cells of a node. -/
def Cells6 (w : World) (b j : Nat) (n : Nd) (va vk : Value) : Prop :=
  w.cell? ⟨b, j, none⟩ = some (.int .i64 n.kind) ∧ w.cell? ⟨b, j + 1, none⟩ = some (.string n.name) ∧ w.cell? ⟨b, j + 2, none⟩ = some (.string n.text) ∧ w.cell? ⟨b, j + 3, none⟩ = some va ∧ w.cell? ⟨b, j + 4, none⟩ = some (.int .i64 n.parent) ∧ w.cell? ⟨b, j + 5, none⟩ = some vk
theorem slice_some {B : Nat} {w : World} {v : Value} {f : Fo} (h : RdF B w v f) (h0 : 0 < f.length) : ∃ b o c, v = .slice (some ⟨b, o, none⟩) f.length c ∧ f.length ≤ c ∧ c ≤ maxLen := by
  obtain ⟨A, c, rfl, h1, h2, h'⟩ := h.form
  obtain ⟨b, o, _, e, _⟩ := h'.at_ h0
  exact ⟨b, o, c, by rw [e], h1, h2⟩
theorem fits_at {w : World} {b o c : Nat} {f : Fo} (h : RdF w.heap.size w (.slice (some ⟨b, o, none⟩) f.length c) f) (hsm : ∀ n ∈ f, Sm n) {k : Nat} (hk : k < f.length) :
    ∃ va vk, (∃ A n c, va = .slice A n c) ∧ (∃ A n c, vk = .slice A n c) ∧ (∀ w', Below w.heap.size w w' → Cells6 w' b (o + k * 6) (at_ f (k : Int)) va vk) ∧
      ∀ w', Below w.heap.size w w' → ∀ vc cs, RdL testE 3 w'.heap.size w' vc cs → SmC cs → Calls Tryz.prog 45 #[ndV (at_ f (k : Int)) va vk, vc] w' (SoPost (fitsC (at_ f (k : Int)) cs) w') := by
  obtain ⟨b2, o2, Aa, ca, Ak, ck, e, hlt, n0, n1, n2, n3, n4, n5, ra, rk, _⟩ := node_at h hk
  injection e with e
  injection e with e1 e2 _
  subst e1 e2
  rw [atN hk]
  refine ⟨_, _, ⟨_, _, _, rfl⟩, ⟨_, _, _, rfl⟩, fun w' hb => ⟨cell_grow hb n0, cell_grow hb n1, cell_grow hb n2, cell_grow hb n3, cell_grow hb n4, cell_grow hb n5⟩, fun w' hb vc cs hc hs => ?_⟩
  exact Fits_calls w' f[k] _ _ vc cs ((ra.below attrE_keeps (w' := w') hb (Nat.le_refl _)).mono attrE_keeps hb.size) hc (hsm _ (List.getElem_mem hk)) hs
end Go.Proofs.YthdenkkllpkplaaGreat.Fi
end
