import Derived.Deep.RegionHeld3
import Derived.WalkMore
import Derived.Test.YtmbhkkophkccbaaGreatC20
import Derived.Test.YtmbhkkophkccbaaGreatC15
section
namespace Go.Proofs.YtmbhkkophkccbaaGreat.Fn
open Go Go.RowKit Go.Proofs.YtmbhkkophkccbaaGreat.Seq WS FS Mem Rd Shapes Word FFam Work
set_option linter.unusedVariables false
set_option linter.unusedSimpArgs false
theorem indexB_calls (w : World) (g c : Nat) (L : List Bool) (hL : L.length ≤ c ∧ c ≤ maxLen) (hc : ∀ j (hj : j < L.length), w.cell? ⟨g, j, none⟩ = some (.bool L[j])) : Calls Tryz.prog 190 #[.slice (some ⟨g, 0, none⟩) L.length c, .bool true] w fun e w' => e = .returned (.int .i64 (idxP L id)) ∧ w = w' := by
 obtain ⟨hl0, hc0⟩ := hL
 simp only [maxLen] at hc0
 have Hc := Lib.hid hc
 clear hc
 go_enter Tryz.func190, Tryz.ntmps190
 go_wp2_with fail
 go_loop [8] (fun i => ∃ k : Nat, k ≤ L.length ∧ i = .int .i64 k ∧ Hid (∀ j (hj : j < L.length), j < k → L[j] = false)) (fun i => L.length - (intOf i).toNat)
 case atStart => exact ⟨0, Nat.zero_le _, rfl, Lib.hid (fun j _ h => absurd h (Nat.not_lt_zero _))⟩
 case round =>
  obtain ⟨k, hk, rfl, hn⟩ := hrel
  by_cases hlt : k < L.length
  ·have g0 := Hc.out k hlt
   cases hx : L[k] with
   | true =>
    rw [hx] at g0
    have hr := idxP_hit (p := id) hlt hx (fun j hj hjk => hn.out j hj hjk)
    have Hr := Lib.hid hr
    clear hr hx
    go_wp2_with fail
    go_ret
    exact ⟨ret_i Hr.out.symm, rfl⟩
   | false =>
    rw [hx] at g0
    have hn2 : ∀ j (hj : j < L.length), j < k + 1 → L[j] = false := fun j hj hjk => by
     by_cases e : j = k
     ·subst e; exact hx
     ·exact hn.out j hj (by omega)
    have Hn2 := Lib.hid hn2
    clear hn2 hx
    go_wp2_with fail
    go_round
    case rel => exact ⟨k + 1, by omega, by go_num, Hn2⟩
    case measure => simp [intOf]; omega
  ·have hr := idxP_none (l := L) (p := id) (fun j hj => hn.out j hj (by omega))
   have Hr := Lib.hid hr
   clear hr
   go_wp2_with fail
   go_ret
   exact ⟨ret_i Hr.out.symm, rfl⟩
theorem containsB_calls (w : World) (g c : Nat) (L : List Bool) (hL : L.length ≤ c ∧ c ≤ maxLen) (hc : ∀ j (hj : j < L.length), w.cell? ⟨g, j, none⟩ = some (.bool L[j])) : Calls Tryz.prog 117 #[.slice (some ⟨g, 0, none⟩) L.length c, .bool true] w fun e w' => e = .returned (.bool (L.any id)) ∧ w = w' := by
 have hi := indexB_calls w g c L hL hc
 have ha := any_iff (l := L) (p := id)
 have Hi := Lib.hid hi; have Ha := Lib.hid ha
 clear hi hc ha hL
 generalize L.any id = y at *
 generalize idxP L id = z at *
 generalize L.length = n at *
 go_enter Tryz.func117, Tryz.ntmps117
 go_wp2_with (go_at_call 190; (with_reducible refine (Hi.out).mono ?_); rintro e w5 ⟨rfl, rfl⟩)
 go_ret
 exact ⟨by rw [← Ha.out]; rfl, rfl⟩
def bR (l : List Bool) : List Value := l.map Value.bool
theorem bR_length (l : List Bool) : (bR l).length = l.length := by unfold bR; simp
theorem bR_get {l : List Bool} {i : Nat} (hi : i < l.length) : (bR l)[i]? = some (.bool l[i]) := by unfold bR; rw [List.getElem?_map, List.getElem?_eq_getElem hi]; rfl
theorem bR_set (l : List Bool) (i : Nat) (b : Bool) : (bR l).set i (.bool b) = bR (l.set i b) := by unfold bR; rw [List.map_set]
theorem info_bool : (Tryz.prog.info? 4).map (fun i => (i.zero, i.size, i.bytes)) = some (some (.bool false), 1, 1) := by kernel_rfl
theorem made_bools (w : World) (n : Nat) (hn : n ≤ 1000) : (w.alloc (.cells (madeCells #[.bool false] n) 4)).ownsRow w.heap.size 4 1 (.slice (some ⟨w.heap.size, 0, none⟩) n n) n (bR (List.replicate n false)) := by
 have := World.ownsRow_lit (base := w.heap.size) (e := 4) (size := 1) w (madeCells #[.bool false] n) n (Nat.le_refl _) (by simp only [maxLen]; omega) (by rw [size_madeCells]; simp)
 rw [toList_madeCells_one] at this
 unfold bR
 rw [List.map_replicate]
 exact this
def fromB (x : Stp) (first : Bool) (now : List Bool) (k : Nat) : Bool := if !first && x.child then decide (0 < k) && now.getD (k - 1) false else first || (now.take k).any id
theorem stepL_length (f : Fo) (x : Stp) (first : Bool) (way : List Int) (now : List Bool) : (stepL f x first way now).length = way.length := by unfold stepL; simp
theorem stepL_at (f : Fo) (x : Stp) (first : Bool) (way : List Int) (now : List Bool) {k : Nat} (hk : k < way.length) : (stepL f x first way now)[k]'(by rw [stepL_length]; exact hk) = (fromB x first now k && fitsC (at_ f way[k]) x.c) := by
 unfold stepL fromB
 simp [hk]
def rowTo (N : List Bool) (q : Nat) : List Bool := N.take q ++ List.replicate (N.length - q) false
theorem rowTo_length {N : List Bool} {q : Nat} (h : q ≤ N.length) : (rowTo N q).length = N.length := by unfold rowTo; simp; omega
theorem rowTo_zero (N : List Bool) : rowTo N 0 = List.replicate N.length false := by unfold rowTo; simp
theorem rowTo_full (N : List Bool) : rowTo N N.length = N := by unfold rowTo; simp
theorem rowTo_succ {N : List Bool} {q : Nat} (h : q < N.length) : (rowTo N q).set q N[q] = rowTo N (q + 1) := by
 unfold rowTo
 rw [show N.length - q = (N.length - (q + 1)) + 1 by omega, List.replicate_succ, List.set_append, if_neg (by rw [List.length_take]; omega)]
 have : q - (N.take q).length = 0 := by rw [List.length_take]; omega
 rw [this, List.set_cons_zero, List.take_succ_eq_append_getElem h, List.append_assoc]
 rfl
theorem any_take_succ {N : List Bool} {q : Nat} (h : q < N.length) : ((N.take q).any id || N[q]) = (N.take (q + 1)).any id := by
 rw [List.take_succ_eq_append_getElem h, List.any_append]
 simp
theorem stepL_none {f : Fo} {x : Stp} {way : List Int} {now : List Bool} (h : now.any id = false) : (stepL f x false way now).any id = false := by
 rw [List.any_eq_false] at h ⊢
 intro b hb
 obtain ⟨k, hk, rfl⟩ := List.mem_iff_getElem.1 hb
 rw [stepL_length] at hk
 rw [stepL_at f x false way now hk]
 have : fromB x false now k = false := by
  unfold fromB
  by_cases hc : x.child = true
  ·rw [if_pos (by rw [hc]; rfl)]
   by_cases hk1 : k - 1 < now.length
   ·have := h _ (List.getElem_mem hk1)
    rw [List.getD_eq_getElem?_getD, List.getElem?_eq_getElem hk1]
    simp at this
    simp [this]
   ·rw [List.getD_eq_getElem?_getD, List.getElem?_eq_none (by omega)]
    simp
  ·rw [if_neg (by simp [hc]), Bool.false_or, List.any_eq_false]
   intro y hy
   exact h y (List.mem_of_mem_take hy)
 rw [this]
 simp
theorem endsL_none {f : Fo} {way : List Int} : ∀ (r : Sro) (now : List Bool), now.any id = false → (endsL f way false now r).any id = false
 | [], now, h => h
 | x :: r, now, h => endsL_none r _ (stepL_none h)
theorem endsL_length {f : Fo} {way : List Int} : ∀ (r : Sro) (first : Bool) (now : List Bool), now.length = way.length → (endsL f way first now r).length = way.length
 | [], _, now, h => h
 | x :: r, first, now, h => endsL_length r _ _ (stepL_length f x first way now)
theorem none_get {N : List Bool} (h : N.any id = false) (k : Nat) : N.getD k false = false := by
 rw [List.any_eq_false] at h
 rw [List.getD_eq_getElem?_getD]
 by_cases hk : k < N.length
 ·rw [List.getElem?_eq_getElem hk]
  have := h _ (List.getElem_mem hk)
  simpa using this
 ·rw [List.getElem?_eq_none (by omega)]; rfl
end Go.Proofs.YtmbhkkophkccbaaGreat.Fn
end
section
namespace Go.Proofs.YtmbhkkophkccbaaGreat.Fn
open Go Go.RowKit Go.Proofs.YtmbhkkophkccbaaGreat.Seq WS FS Mem Rd Shapes Word FFam Work
set_option linter.unusedVariables false
set_option linter.unusedSimpArgs false
theorem own_base {w : World} {B B' : Nat} {e : TypeId} {sz n : Nat} {v : Value} {xs : List Value} (h : w.ownsRow B e sz v n xs) (hb : B' ≤ B) : w.ownsRow B' e sz v n xs :=
 ⟨h.1, h.2.elim .inl (fun ⟨g, cap, cur, a, b, c⟩ => .inr ⟨g, cap, cur, a, Nat.le_trans hb b, c⟩)⟩
theorem bool_cell {w : World} {B g c m : Nat} {N : List Bool} (h : w.ownsRow B 4 1 (.slice (some ⟨g, 0, none⟩) m c) m (bR N)) {j : Nat} (hj : j < N.length) : w.cell? ⟨g, j, none⟩ = some (.bool N[j]) := by
 have := h.cells (g := g) rfl j _ (bR_get hj)
 rw [Addr.add_lit] at this
 rwa [Nat.zero_add] at this
theorem bool_free {w : World} {B g c m : Nat} {N : List Bool} (h : w.ownsRow B 4 1 (.slice (some ⟨g, 0, none⟩) m c) m (bR N)) (j : Nat) : w.frozen? ⟨g, j, none⟩ = false := by
 rcases h.2 with ⟨e, _⟩ | ⟨g', cap, cur, e, _, hg, _⟩
 ·cases e
 ·injection e with e
  injection e with e
  injection e with e
  subst e
  simp [World.frozen?, hg]
structure Box (x : Stp) (At : Option Addr) (ct bx : Nat) (w : World) : Prop where
 row : w.heap[bx]? = some (.cells #[.slice At x.c.length ct, .bool x.child] 54 (0, 0))
theorem Box.cells {x : Stp} {At : Option Addr} {ct bx : Nat} {w : World} (h : Box x At ct bx w) : w.cell? ⟨bx, 0, none⟩ = some (.slice At x.c.length ct) ∧ w.cell? ⟨bx, 1, none⟩ = some (.bool x.child) := ⟨(cell_of_row _ _ _ _ _ _ h.row).trans rfl, (cell_of_row _ _ _ _ _ _ h.row).trans rfl⟩
set_option maxRecDepth 100000 in
set_option maxHeartbeats 8000000 in
theorem ends_calls (w : World) (v : Value) (f : Fo) (h : RdF w.heap.size w v f) (hm : mayB f = true) (hsm : ∀ n ∈ f, Sm n) (A : Option Addr) (c : Nat) (way : List Int) (hway : RdL (intE .i64) 1 w.heap.size w (.slice A way.length c) way) (hnode : ∀ x ∈ way, isNode f x = true)
  (hlw : 0 < way.length ∧ way.length ≤ 60) (vr : Value) (r : Sro) (hr : RdL stepE 2 w.heap.size w vr r) (hrs : ∀ x ∈ r, SmC x.c) :
  Calls Tryz.prog 53 #[v, .slice A way.length c, vr] w fun e w' => e = .returned (.bool (endsB f way r)) ∧ Below w.heap.size w w' := by
 have hrd := fun w' (hb : Below w.heap.size w w') => (h.below nodeE_keeps (w' := w') hb (Nat.le_refl _))
 have hwy := fun w' (hb : Below w.heap.size w w') => (hway.below (intE_keeps _) (w' := w') hb (Nat.le_refl _))
 have hrr := fun w' (hb : Below w.heap.size w w') => (hr.below stepE_keeps (w' := w') hb (Nat.le_refl _))
 obtain ⟨A0, c0, rfl, hl0, hc0, _⟩ := h.form
 obtain ⟨Ar, cr, rfl, hlr, hcr, _⟩ := hr.form
 obtain ⟨_, _, e1, hlc, hcc, _⟩ := hway.form
 injection e1 with e1 _ e2
 subst e1 e2
 simp only [maxLen] at hc0 hcr hcc
 have hlen := (may_len hm).2
 have hmk := fun W => run_make_row' (P := Tryz.prog) 123 4 (.bool false) 1 Tryz.underlying123 info_bool rfl .i64 .i64 way.length (by omega) (by omega) W
 have Hrd := Lib.hid hrd; have Hwy := Lib.hid hwy; have Hrr := Lib.hid hrr; have Hnode := Lib.hid hnode; have Hsm := Lib.hid hsm; have Hrs := Lib.hid hrs
 clear hrd hwy hrr hnode hsm hrs h hway hr hm
 by_cases h0 : r = []
 ·subst h0
  have hE : endsB f way [] = false := by unfold endsB; simp
  rw [hE]
  clear hmk hE
  go_enter Tryz.func53, Tryz.ntmps53
  go_wp2_with fail
  go_step3
  go_wp2_with fail
  rw [Exit.noGoto_ret]
  go_ret
  exact ⟨rfl, Below.refl _ _⟩
 have hr0 : 0 < r.length := List.length_pos_iff.2 h0
 have hrq : ((r.length : Int) == 0) = false := by rw [beq_eq_false_iff_ne]; omega
 have hEE : endsB f way r = (endsL f way true (List.replicate way.length false) r).getD (way.length - 1) false := by unfold endsB; rw [decide_eq_true h0, Bool.true_and]
 obtain ⟨P, hP⟩ : ∃ P, way.length = P + 1 := ⟨way.length - 1, by omega⟩
 have hPw : IntKind.i64.wrap ((way.length : Int) - 1) = (P : Int) := by rw [IntKind.wrap_i64]; omega
 have hPl : (P : Int) < (way.length : Int) := by omega
 have hP0 : (0 : Int) ≤ (P : Int) := by omega
 rw [show way.length - 1 = P by omega] at hEE
 have HEE := Lib.hid hEE; have HP := Lib.hid hP; have HPw := Lib.hid hPw
 clear h0 hEE hPw hP
 go_enter Tryz.func53, Tryz.ntmps53
 go_wp2_with fail
 go_step3
 go_wp2_with fail
 go_step3
 obtain ⟨W0, hW0⟩ : ∃ W0, w.alloc (.cells (madeCells #[.bool false] way.length) 4) = W0 := ⟨_, rfl⟩
 have ho0 : W0.ownsRow w.heap.size 4 1 (.slice (some ⟨w.heap.size, 0, none⟩) way.length way.length) way.length (bR (List.replicate way.length false)) := by rw [← hW0]; exact made_bools w way.length (by omega)
 have hb0 : Below w.heap.size w W0 := by rw [← hW0]; exact (Below.refl _ _).alloc (Nat.le_refl _) _
 rw [hW0]
 have Ho0 := Lib.hid ho0; have Hb0 := Lib.hid hb0
 clear ho0 hb0 hW0
 go_wp2_with fail
 go_loopw [7, 23] (fun u i wr => ∃ (k g : Nat) (NOW : List Bool), k ≤ r.length ∧ i = .int .i64 k ∧ u = .slice (some ⟨g, 0, none⟩) way.length way.length ∧ NOW.length = way.length ∧ Hid (wr.ownsRow w.heap.size 4 1 (.slice (some ⟨g, 0, none⟩) way.length way.length) way.length (bR NOW)) ∧ Hid (endsL f way true (List.replicate way.length false) r = endsL f way (decide (k = 0)) NOW (r.drop k)) ∧ Hid (Below w.heap.size w wr)) (fun _ i _ => r.length - (intOf i).toNat)
 case atStart => exact ⟨0, _, _, Nat.zero_le _, rfl, rfl, by simp, Ho0, Lib.hid rfl, Hb0⟩
 case round =>
  obtain ⟨k, g, NOW, hk, rfl, rfl, hNl, hrow, hEk, hb⟩ := hrel
  by_cases hlt : k < r.length
  ·obtain ⟨bs, os, At, ct, rfl, _, s0, s1, rt, lt1, lt2⟩ := step_at (Hrr.out wr hb.out) hlt
   simp only [maxLen] at lt2
   have hst := Hrs.out r[k] (List.getElem_mem _)
   have hdr : r.drop k = r[k] :: r.drop (k + 1) := List.drop_eq_getElem_cons hlt
   have hE2 := hEk.out
   rw [hdr, endsL] at hE2
   have hrt := fun w' (hb' : Below wr.heap.size wr w') => (rt.below testE_keeps (w' := w') hb' hb.out.size).mono testE_keeps hb'.size
   generalize r[k] = x at *
   have hglt : g < wr.heap.size := (hrow.out.lt g rfl).2
   have Hst := Lib.hid hst; have HE2 := Lib.hid hE2; have Hrt := Lib.hid hrt; have HNl := Lib.hid hNl
   obtain ⟨wo, rfl⟩ : ∃ wo : World, wo = wr := ⟨_, rfl⟩
   clear hst hE2 hrt rt hdr hEk hNl
   go_upto_region 7 with fail
   obtain ⟨W1, hW1⟩ : ∃ W1, wo.alloc (.cells #[.slice At x.c.length ct, .bool x.child] 54) = W1 := ⟨_, rfl⟩
   have hx1 : Box x At ct wo.heap.size W1 := ⟨by rw [← hW1]; exact World.alloc_heap_new wo _⟩
   have hb1 : Below wo.heap.size wo W1 := by rw [← hW1]; exact (Below.refl _ _).alloc (Nat.le_refl _) _
   rw [hW1]
   clear hW1 s0 s1
   go_upto_region 9 with fail
   obtain ⟨W2, hW2⟩ : ∃ W2, W1.alloc (.cells (madeCells #[.bool false] way.length) 4) = W2 := ⟨_, rfl⟩
   have ho2 : W2.ownsRow W1.heap.size 4 1 (.slice (some ⟨W1.heap.size, 0, none⟩) way.length way.length) way.length (bR (List.replicate way.length false)) := by rw [← hW2]; exact made_bools W1 way.length (by omega)
   have hb2 : Below W1.heap.size W1 W2 := by rw [← hW2]; exact (Below.refl _ _).alloc (Nat.le_refl _) _
   rw [hW2]
   have hbl1 : wo.heap.size < W1.heap.size := lt_heap hx1.row
   have hbx := fun w' (hb' : Below W1.heap.size W1 w') => Box.cells (⟨(hb'.block _ hbl1).trans hx1.row⟩ : Box x At ct wo.heap.size w')
   have hnw := fun w' (hb' : Below W1.heap.size W1 w') => own_keep hrow.out (w' := w') (fun g' hg' => (hb'.block g' (by have := (hrow.out.lt g' hg').2; omega)).trans (hb1.block g' (hrow.out.lt g' hg').2))
   have hup := fun w' (hb' : Below W1.heap.size W1 w') => bthen hb.out (bthen hb1 hb')
   have hst2 := fun w' (hb' : Below W1.heap.size W1 w') => Hrt.out w' (bthen hb1 hb')
   obtain ⟨N, hN⟩ : ∃ N, N = stepL f x (decide (k = 0)) way NOW := ⟨_, rfl⟩
   have hNl2 : N.length = way.length := by rw [hN, stepL_length]
   have hNat : ∀ q (hq : q < way.length) (hq2 : q < N.length), N[q] = (fromB x (decide (k = 0)) NOW q && fitsC (at_ f way[q]) x.c) := fun q hq hq2 => by
    have := stepL_at f x (decide (k = 0)) way NOW hq
    simp only [hN]
    exact this
   rw [← hN] at HE2
   rw [show (bR (List.replicate way.length false)) = bR (rowTo N 0) by rw [rowTo_zero, hNl2]] at ho2
   have Ho2 := Lib.hid ho2; have Hb2 := Lib.hid hb2; have Hbx := Lib.hid hbx; have Hnw := Lib.hid hnw; have Hup := Lib.hid hup; have Hst2 := Lib.hid hst2; have HNl2 := Lib.hid hNl2; have HNat := Lib.hid hNat; have Hrow := Lib.hid hrow.out
   have hgW : g ≠ W1.heap.size := by omega
   have hbW : w.heap.size ≤ W1.heap.size := by have := hb.out.size; omega
   have Hbl := Lib.hid hbl1
   clear ho2 hb2 hbx hnw hup hst2 hNl2 hNat hrow hb1 hx1 hW2 hbl1 hN
   go_wp2_with fail
   go_loopw [11, 33] (fun bf i wx => ∃ q : Nat, q ≤ way.length ∧ i = .int .i64 q ∧ bf = .bool ((NOW.take q).any id) ∧ Hid (wx.ownsRow W1.heap.size 4 1 (.slice (some ⟨W1.heap.size, 0, none⟩) way.length way.length) way.length (bR (rowTo N q))) ∧ Hid (Below W1.heap.size W1 wx)) (fun _ i _ => way.length - (intOf i).toNat)
   case atStart => exact ⟨0, Nat.zero_le _, rfl, by simp, Ho2, Hb2⟩
   case round =>
    obtain ⟨q, hq, rfl, rfl, ho, hb3⟩ := hrel
    by_cases hqlt : q < way.length
    ·obtain ⟨wx0, rfl⟩ : ∃ wx0 : World, wx0 = wr := ⟨_, rfl⟩
     obtain ⟨bw, ow, rfl, _, w0, _⟩ := intE_at (Hwy.out wx0 (Hup.out wx0 hb3.out)) hqlt
     obtain ⟨z, hz, hzl⟩ := node_nat (Hnode.out way[q] (List.getElem_mem _))
     obtain ⟨bn, on, Aa, ca, Ak, ck, rfl, hbn, n0, n1, n2, n3, n4, n5, ra, _, _, _, _, _, _, _, _, _⟩ := node_at (Hrd.out wx0 (Hup.out wx0 hb3.out)) hzl
     obtain ⟨x0, x1⟩ := Hbx.out wx0 hb3.out
     have hqN2 : q < N.length := by have := HNl2.out; omega
     have hnq := HNat.out q hqlt hqN2
     rw [hz, atN hzl] at hnq
     rw [hz] at w0
     have hnr := Hnw.out wx0 hb3.out
     have hqN : q < NOW.length := by have := HNl.out; omega
     have hcq := bool_cell hnr hqN
     have hzI : (z : Int) < (f.length : Int) := by omega
     have hz0 : (0 : Int) ≤ (z : Int) := by omega
     have hfit := fun w' (hb' : Below wx0.heap.size wx0 w') => Fits_calls w' f[z] (.slice Aa f[z].attrs.length ca) (.slice Ak f[z].kids.length ck) (.slice At x.c.length ct) x.c ((ra.below attrE_keeps (w' := w') hb' (Hup.out wx0 hb3.out).size).mono attrE_keeps hb'.size) (Hst2.out w' (bthen hb3.out hb')) (Hsm.out _ (List.getElem_mem _)) Hst.out
     unfold SoPost at hfit
     have hgn := fun w' (hb' : Below wx0.heap.size wx0 w') => (⟨cell_grow hb' n0, cell_grow hb' n1, cell_grow hb' n2, cell_grow hb' n3, cell_grow hb' n4, cell_grow hb' n5, cell_grow hb' x0⟩ : w'.cell? ⟨bn, on + z * 6, none⟩ = _ ∧ w'.cell? ⟨bn, on + z * 6 + 1, none⟩ = _ ∧ w'.cell? ⟨bn, on + z * 6 + 2, none⟩ = _ ∧ w'.cell? ⟨bn, on + z * 6 + 3, none⟩ = _ ∧ w'.cell? ⟨bn, on + z * 6 + 4, none⟩ = _ ∧ w'.cell? ⟨bn, on + z * 6 + 5, none⟩ = _ ∧ w'.cell? ⟨wo.heap.size, 0, none⟩ = _)
     have hbnW : bn ≠ W1.heap.size := by omega
     have hxW : wo.heap.size ≠ W1.heap.size := by have := Hbl.out; omega
     have hrl : (rowTo N q).length = way.length := by rw [rowTo_length (by have := HNl2.out; omega), HNl2.out]
     have hnx := fun w' (hb' : Below wx0.heap.size wx0 w') => own_keep ho.out (w' := w') (fun g' hg' => hb'.block g' (ho.out.lt g' hg').2)
     have hanyS := any_take_succ hqN
     have hset : ∀ (w' : World) (y : Bool), Below wx0.heap.size wx0 w' → y = N[q] → (w'.setCell ⟨W1.heap.size, q, none⟩ (.bool y)).ownsRow W1.heap.size 4 1 (.slice (some ⟨W1.heap.size, 0, none⟩) way.length way.length) way.length (bR (rowTo N (q + 1))) := fun w' y hb' hy => by
      subst hy
      have := ((hnx w' hb').stored q (.bool N[q])).1
      rw [bR_set, rowTo_succ (by have := HNl2.out; omega)] at this
      exact this
     have hbel : ∀ (w' : World) (y : Bool), Below wx0.heap.size wx0 w' → Below W1.heap.size W1 (w'.setCell ⟨W1.heap.size, q, none⟩ (.bool y)) := fun w' y hb' => (bthen hb3.out hb').setCell (Nat.le_refl _) _
     have hnc : ∀ (w' : World) (y : Bool), Below wx0.heap.size wx0 w' → (w'.setCell ⟨W1.heap.size, q, none⟩ (.bool y)).cell? ⟨g, q, none⟩ = some (.bool NOW[q]) := fun w' y hb' => (OwnF.cell_same (Below.heap_setCell _ _ _ _ hgW) _).trans (bool_cell (Hnw.out w' (bthen hb3.out hb')) hqN)
     have hxc := fun w' (hb' : Below wx0.heap.size wx0 w') => (⟨bool_cell (hnx w' hb') (by omega), bool_free (hnx w' hb') q⟩ : w'.cell? ⟨W1.heap.size, q, none⟩ = some (.bool ((rowTo N q)[q]'(by omega))) ∧ w'.frozen? ⟨W1.heap.size, q, none⟩ = false)
     generalize (rowTo N q)[q]'(by omega) = oldb at hxc
     generalize fitsC f[z] x.c = fb at *
     generalize NOW[q] = nq at *
     obtain ⟨xc0, xf0⟩ := hxc wx0 (Below.refl _ _)
     have Hfit := Lib.hid hfit; have Hgn := Lib.hid hgn; have Hset := Lib.hid hset; have Hbel := Lib.hid hbel; have Hnc := Lib.hid hnc; have Hxc := Lib.hid hxc; have Hany := Lib.hid hanyS; have Hnq := Lib.hid hnq; have Hb3 := Lib.hid hb3.out
     clear hfit hgn hset hbel hnc hxc hanyS hnq hb3 ra hnx hz
     have Hnr := Lib.hid hnr
     clear hnr
     have hqI : (q : Int) < (way.length : Int) := by omega
     have hq0 : (0 : Int) ≤ (q : Int) := by omega
     generalize f[z].attrs.length = la at *
     generalize f[z].kids.length = lk at *
     cases hB : (NOW.take q).any id with
     | true =>
      by_cases hk0 : k = 0
      ·have hki : ((k : Int) == 0) = true := by rw [beq_iff_eq]; omega
       have hki2 : ¬ 0 < (k : Int) := by omega
       have hF : fromB x (decide (k = 0)) NOW q = true := by unfold fromB; rw [decide_eq_true hk0]; rfl
       clear hk0
       go_upto_region 15 with fail
       go_region_held3 (fun w' => w'.cell? ⟨bn, on + z * 6, none⟩ = some (.int .i64 f[z].kind) ∧ w'.cell? ⟨bn, on + z * 6 + 1, none⟩ = some (.string f[z].name) ∧ w'.cell? ⟨bn, on + z * 6 + 2, none⟩ = some (.string f[z].text) ∧ w'.cell? ⟨bn, on + z * 6 + 3, none⟩ = some (.slice Aa la ca) ∧ w'.cell? ⟨bn, on + z * 6 + 4, none⟩ = some (.int .i64 f[z].parent) ∧ w'.cell? ⟨bn, on + z * 6 + 5, none⟩ = some (.slice Ak lk ck) ∧ w'.cell? ⟨wo.heap.size, 0, none⟩ = some (.slice At x.c.length ct))
        (first | exact ⟨n0, n1, n2, n3, n4, n5, x0⟩ | exact y5 | exact ⟨(OwnF.cell_same (Below.heap_setCell _ _ _ _ hbnW) _).trans y5.1, (OwnF.cell_same (Below.heap_setCell _ _ _ _ hbnW) _).trans y5.2.1, (OwnF.cell_same (Below.heap_setCell _ _ _ _ hbnW) _).trans y5.2.2.1, (OwnF.cell_same (Below.heap_setCell _ _ _ _ hbnW) _).trans y5.2.2.2.1, (OwnF.cell_same (Below.heap_setCell _ _ _ _ hbnW) _).trans y5.2.2.2.2.1, (OwnF.cell_same (Below.heap_setCell _ _ _ _ hbnW) _).trans y5.2.2.2.2.2.1, (OwnF.cell_same (Below.heap_setCell _ _ _ _ hxW) _).trans y5.2.2.2.2.2.2⟩ | go_keep)
        (first | (go_at_call 25; (first | (with_reducible refine (Hfit.out _ (Below.refl _ _).drew).mono ?_) | (with_reducible refine (Hfit.out _ (Below.refl _ _)).mono ?_)); rintro e w5 ⟨rfl, hb5⟩; have hb5' := (Below.refl _ wx0).drew.trans hb5; have y5 := Hgn.out _ hb5'; obtain ⟨xc5, xf5⟩ := Hxc.out _ hb5'; have Hb5 := Lib.hid hb5'; clear hb5 hb5'))
       have z5 := Hnc.out w5 fb Hb5.out
       go_wp2_with fail
       go_roundw
       case rel => exact ⟨q + 1, by omega, by go_num, by rw [← Hany.out, hB]; rfl, Lib.hid (Hset.out _ _ Hb5.out (by rw [Hnq.out, hF]; rfl)), Lib.hid (Hbel.out _ _ Hb5.out)⟩
       case measure => simp [intOf]; omega
      ·have hki : ((k : Int) == 0) = false := by rw [beq_eq_false_iff_ne]; omega
       have hki2 : 0 < (k : Int) := by omega
       cases hch : x.child with
       | false =>
        have hF : fromB x (decide (k = 0)) NOW q = true := by unfold fromB; rw [decide_eq_false hk0, hch, hB]; rfl
        rw [hch] at x1
        clear hk0 hch
        go_upto_region 15 with fail
        go_region_held3 (fun w' => w'.cell? ⟨bn, on + z * 6, none⟩ = some (.int .i64 f[z].kind) ∧ w'.cell? ⟨bn, on + z * 6 + 1, none⟩ = some (.string f[z].name) ∧ w'.cell? ⟨bn, on + z * 6 + 2, none⟩ = some (.string f[z].text) ∧ w'.cell? ⟨bn, on + z * 6 + 3, none⟩ = some (.slice Aa la ca) ∧ w'.cell? ⟨bn, on + z * 6 + 4, none⟩ = some (.int .i64 f[z].parent) ∧ w'.cell? ⟨bn, on + z * 6 + 5, none⟩ = some (.slice Ak lk ck) ∧ w'.cell? ⟨wo.heap.size, 0, none⟩ = some (.slice At x.c.length ct))
         (first | exact ⟨n0, n1, n2, n3, n4, n5, x0⟩ | exact y5 | exact ⟨(OwnF.cell_same (Below.heap_setCell _ _ _ _ hbnW) _).trans y5.1, (OwnF.cell_same (Below.heap_setCell _ _ _ _ hbnW) _).trans y5.2.1, (OwnF.cell_same (Below.heap_setCell _ _ _ _ hbnW) _).trans y5.2.2.1, (OwnF.cell_same (Below.heap_setCell _ _ _ _ hbnW) _).trans y5.2.2.2.1, (OwnF.cell_same (Below.heap_setCell _ _ _ _ hbnW) _).trans y5.2.2.2.2.1, (OwnF.cell_same (Below.heap_setCell _ _ _ _ hbnW) _).trans y5.2.2.2.2.2.1, (OwnF.cell_same (Below.heap_setCell _ _ _ _ hxW) _).trans y5.2.2.2.2.2.2⟩ | go_keep)
         (first | (go_at_call 25; (first | (with_reducible refine (Hfit.out _ (Below.refl _ _).drew).mono ?_) | (with_reducible refine (Hfit.out _ (Below.refl _ _)).mono ?_)); rintro e w5 ⟨rfl, hb5⟩; have hb5' := (Below.refl _ wx0).drew.trans hb5; have y5 := Hgn.out _ hb5'; obtain ⟨xc5, xf5⟩ := Hxc.out _ hb5'; have Hb5 := Lib.hid hb5'; clear hb5 hb5'))
        have z5 := Hnc.out w5 fb Hb5.out
        go_wp2_with fail
        go_roundw
        case rel => exact ⟨q + 1, by omega, by go_num, by rw [← Hany.out, hB]; rfl, Lib.hid (Hset.out _ _ Hb5.out (by rw [Hnq.out, hF]; rfl)), Lib.hid (Hbel.out _ _ Hb5.out)⟩
        case measure => simp [intOf]; omega
       | true =>
        rw [hch] at x1
        by_cases hq1 : q = 0
        ·have hq2 : ¬ 0 < (q : Int) := by omega
         have hF : fromB x (decide (k = 0)) NOW q = false := by unfold fromB; rw [decide_eq_false hk0, hch, hq1]; rfl
         clear hk0 hch hq1
         go_upto_region 15 with fail
         go_region
         have z5' := Hnc.out wx0 false (Below.refl _ wx0)
         have z5 := Hnc.out wx0.drew false (Below.refl _ wx0).drew
         go_wp2_with fail
         go_roundw
         case rel => first | exact ⟨q + 1, by omega, by go_num, by rw [← Hany.out, hB]; rfl, Lib.hid ((Hset.out _ _ (Below.refl _ wx0) (by rw [Hnq.out, hF]; rfl))), Lib.hid ((Hbel.out _ _ (Below.refl _ wx0)))⟩ | exact ⟨q + 1, by omega, by go_num, by rw [← Hany.out, hB]; rfl, Lib.hid ((Hset.out _ _ (Below.refl _ wx0) (by rw [Hnq.out, hF]; rfl)).drew), Lib.hid ((Hbel.out _ _ (Below.refl _ wx0)).drew)⟩
         case measure => simp [intOf]; omega
        ·obtain ⟨p, hp⟩ : ∃ p, q = p + 1 := ⟨q - 1, by omega⟩
         have hq2 : 0 < (q : Int) := by omega
         have hpw : IntKind.i64.wrap ((q : Int) - 1) = (p : Int) := by rw [IntKind.wrap_i64]; omega
         have hpN : p < NOW.length := by omega
         have hcp := bool_cell Hnr.out hpN
         have hpI : (p : Int) < (way.length : Int) := by omega
         have hp0 : (0 : Int) ≤ (p : Int) := by omega
         have hF0 : fromB x (decide (k = 0)) NOW q = NOW[p] := by
          unfold fromB
          rw [decide_eq_false hk0, hch, hp, Nat.add_sub_cancel, List.getD_eq_getElem?_getD, List.getElem?_eq_getElem hpN]
          simp
         clear hk0 hch hq1 hp
         cases hnp : NOW[p] with
         | true =>
          have hF := hF0
          rw [hnp] at hF hcp
          clear hnp hF0
          go_upto_region 15 with fail
          go_region_held3 (fun w' => w'.cell? ⟨bn, on + z * 6, none⟩ = some (.int .i64 f[z].kind) ∧ w'.cell? ⟨bn, on + z * 6 + 1, none⟩ = some (.string f[z].name) ∧ w'.cell? ⟨bn, on + z * 6 + 2, none⟩ = some (.string f[z].text) ∧ w'.cell? ⟨bn, on + z * 6 + 3, none⟩ = some (.slice Aa la ca) ∧ w'.cell? ⟨bn, on + z * 6 + 4, none⟩ = some (.int .i64 f[z].parent) ∧ w'.cell? ⟨bn, on + z * 6 + 5, none⟩ = some (.slice Ak lk ck) ∧ w'.cell? ⟨wo.heap.size, 0, none⟩ = some (.slice At x.c.length ct))
           (first | exact ⟨n0, n1, n2, n3, n4, n5, x0⟩ | exact y5 | exact ⟨(OwnF.cell_same (Below.heap_setCell _ _ _ _ hbnW) _).trans y5.1, (OwnF.cell_same (Below.heap_setCell _ _ _ _ hbnW) _).trans y5.2.1, (OwnF.cell_same (Below.heap_setCell _ _ _ _ hbnW) _).trans y5.2.2.1, (OwnF.cell_same (Below.heap_setCell _ _ _ _ hbnW) _).trans y5.2.2.2.1, (OwnF.cell_same (Below.heap_setCell _ _ _ _ hbnW) _).trans y5.2.2.2.2.1, (OwnF.cell_same (Below.heap_setCell _ _ _ _ hbnW) _).trans y5.2.2.2.2.2.1, (OwnF.cell_same (Below.heap_setCell _ _ _ _ hxW) _).trans y5.2.2.2.2.2.2⟩ | go_keep)
           (first | (go_at_call 25; (first | (with_reducible refine (Hfit.out _ (Below.refl _ _).drew).mono ?_) | (with_reducible refine (Hfit.out _ (Below.refl _ _)).mono ?_)); rintro e w5 ⟨rfl, hb5⟩; have hb5' := (Below.refl _ wx0).drew.trans hb5; have y5 := Hgn.out _ hb5'; obtain ⟨xc5, xf5⟩ := Hxc.out _ hb5'; have Hb5 := Lib.hid hb5'; clear hb5 hb5'))
          have z5 := Hnc.out w5 fb Hb5.out
          go_wp2_with fail
          go_roundw
          case rel => exact ⟨q + 1, by omega, by go_num, by rw [← Hany.out, hB]; rfl, Lib.hid (Hset.out _ _ Hb5.out (by rw [Hnq.out, hF]; rfl)), Lib.hid (Hbel.out _ _ Hb5.out)⟩
          case measure => simp [intOf]; omega
         | false =>
          have hF := hF0
          rw [hnp] at hF hcp
          clear hnp hF0
          go_upto_region 15 with fail
          go_region
          have z5' := Hnc.out wx0 false (Below.refl _ wx0)
          have z5 := Hnc.out wx0.drew false (Below.refl _ wx0).drew
          go_wp2_with fail
          go_roundw
          case rel => first | exact ⟨q + 1, by omega, by go_num, by rw [← Hany.out, hB]; rfl, Lib.hid ((Hset.out _ _ (Below.refl _ wx0) (by rw [Hnq.out, hF]; rfl))), Lib.hid ((Hbel.out _ _ (Below.refl _ wx0)))⟩ | exact ⟨q + 1, by omega, by go_num, by rw [← Hany.out, hB]; rfl, Lib.hid ((Hset.out _ _ (Below.refl _ wx0) (by rw [Hnq.out, hF]; rfl)).drew), Lib.hid ((Hbel.out _ _ (Below.refl _ wx0)).drew)⟩
          case measure => simp [intOf]; omega
     | false =>
      by_cases hk0 : k = 0
      ·have hki : ((k : Int) == 0) = true := by rw [beq_iff_eq]; omega
       have hki2 : ¬ 0 < (k : Int) := by omega
       have hF : fromB x (decide (k = 0)) NOW q = true := by unfold fromB; rw [decide_eq_true hk0]; rfl
       clear hk0
       go_upto_region 15 with fail
       go_region_held3 (fun w' => w'.cell? ⟨bn, on + z * 6, none⟩ = some (.int .i64 f[z].kind) ∧ w'.cell? ⟨bn, on + z * 6 + 1, none⟩ = some (.string f[z].name) ∧ w'.cell? ⟨bn, on + z * 6 + 2, none⟩ = some (.string f[z].text) ∧ w'.cell? ⟨bn, on + z * 6 + 3, none⟩ = some (.slice Aa la ca) ∧ w'.cell? ⟨bn, on + z * 6 + 4, none⟩ = some (.int .i64 f[z].parent) ∧ w'.cell? ⟨bn, on + z * 6 + 5, none⟩ = some (.slice Ak lk ck) ∧ w'.cell? ⟨wo.heap.size, 0, none⟩ = some (.slice At x.c.length ct))
        (first | exact ⟨n0, n1, n2, n3, n4, n5, x0⟩ | exact y5 | exact ⟨(OwnF.cell_same (Below.heap_setCell _ _ _ _ hbnW) _).trans y5.1, (OwnF.cell_same (Below.heap_setCell _ _ _ _ hbnW) _).trans y5.2.1, (OwnF.cell_same (Below.heap_setCell _ _ _ _ hbnW) _).trans y5.2.2.1, (OwnF.cell_same (Below.heap_setCell _ _ _ _ hbnW) _).trans y5.2.2.2.1, (OwnF.cell_same (Below.heap_setCell _ _ _ _ hbnW) _).trans y5.2.2.2.2.1, (OwnF.cell_same (Below.heap_setCell _ _ _ _ hbnW) _).trans y5.2.2.2.2.2.1, (OwnF.cell_same (Below.heap_setCell _ _ _ _ hxW) _).trans y5.2.2.2.2.2.2⟩ | go_keep)
        (first | (go_at_call 25; (first | (with_reducible refine (Hfit.out _ (Below.refl _ _).drew).mono ?_) | (with_reducible refine (Hfit.out _ (Below.refl _ _)).mono ?_)); rintro e w5 ⟨rfl, hb5⟩; have hb5' := (Below.refl _ wx0).drew.trans hb5; have y5 := Hgn.out _ hb5'; obtain ⟨xc5, xf5⟩ := Hxc.out _ hb5'; have Hb5 := Lib.hid hb5'; clear hb5 hb5'))
       have z5 := Hnc.out w5 fb Hb5.out
       go_wp2_with fail
       go_roundw
       case rel => exact ⟨q + 1, by omega, by go_num, by rw [← Hany.out, hB]; rfl, Lib.hid (Hset.out _ _ Hb5.out (by rw [Hnq.out, hF]; rfl)), Lib.hid (Hbel.out _ _ Hb5.out)⟩
       case measure => simp [intOf]; omega
      ·have hki : ((k : Int) == 0) = false := by rw [beq_eq_false_iff_ne]; omega
       have hki2 : 0 < (k : Int) := by omega
       cases hch : x.child with
       | false =>
        have hF : fromB x (decide (k = 0)) NOW q = false := by unfold fromB; rw [decide_eq_false hk0, hch, hB]; rfl
        rw [hch] at x1
        clear hk0 hch
        go_upto_region 15 with fail
        go_region
        have z5' := Hnc.out wx0 false (Below.refl _ wx0)
        have z5 := Hnc.out wx0.drew false (Below.refl _ wx0).drew
        go_wp2_with fail
        go_roundw
        case rel => first | exact ⟨q + 1, by omega, by go_num, by rw [← Hany.out, hB]; rfl, Lib.hid ((Hset.out _ _ (Below.refl _ wx0) (by rw [Hnq.out, hF]; rfl))), Lib.hid ((Hbel.out _ _ (Below.refl _ wx0)))⟩ | exact ⟨q + 1, by omega, by go_num, by rw [← Hany.out, hB]; rfl, Lib.hid ((Hset.out _ _ (Below.refl _ wx0) (by rw [Hnq.out, hF]; rfl)).drew), Lib.hid ((Hbel.out _ _ (Below.refl _ wx0)).drew)⟩
        case measure => simp [intOf]; omega
       | true =>
        rw [hch] at x1
        by_cases hq1 : q = 0
        ·have hq2 : ¬ 0 < (q : Int) := by omega
         have hF : fromB x (decide (k = 0)) NOW q = false := by unfold fromB; rw [decide_eq_false hk0, hch, hq1]; rfl
         clear hk0 hch hq1
         go_upto_region 15 with fail
         go_region
         have z5' := Hnc.out wx0 false (Below.refl _ wx0)
         have z5 := Hnc.out wx0.drew false (Below.refl _ wx0).drew
         go_wp2_with fail
         go_roundw
         case rel => first | exact ⟨q + 1, by omega, by go_num, by rw [← Hany.out, hB]; rfl, Lib.hid ((Hset.out _ _ (Below.refl _ wx0) (by rw [Hnq.out, hF]; rfl))), Lib.hid ((Hbel.out _ _ (Below.refl _ wx0)))⟩ | exact ⟨q + 1, by omega, by go_num, by rw [← Hany.out, hB]; rfl, Lib.hid ((Hset.out _ _ (Below.refl _ wx0) (by rw [Hnq.out, hF]; rfl)).drew), Lib.hid ((Hbel.out _ _ (Below.refl _ wx0)).drew)⟩
         case measure => simp [intOf]; omega
        ·obtain ⟨p, hp⟩ : ∃ p, q = p + 1 := ⟨q - 1, by omega⟩
         have hq2 : 0 < (q : Int) := by omega
         have hpw : IntKind.i64.wrap ((q : Int) - 1) = (p : Int) := by rw [IntKind.wrap_i64]; omega
         have hpN : p < NOW.length := by omega
         have hcp := bool_cell Hnr.out hpN
         have hpI : (p : Int) < (way.length : Int) := by omega
         have hp0 : (0 : Int) ≤ (p : Int) := by omega
         have hF0 : fromB x (decide (k = 0)) NOW q = NOW[p] := by
          unfold fromB
          rw [decide_eq_false hk0, hch, hp, Nat.add_sub_cancel, List.getD_eq_getElem?_getD, List.getElem?_eq_getElem hpN]
          simp
         clear hk0 hch hq1 hp
         cases hnp : NOW[p] with
         | true =>
          have hF := hF0
          rw [hnp] at hF hcp
          clear hnp hF0
          go_upto_region 15 with fail
          go_region_held3 (fun w' => w'.cell? ⟨bn, on + z * 6, none⟩ = some (.int .i64 f[z].kind) ∧ w'.cell? ⟨bn, on + z * 6 + 1, none⟩ = some (.string f[z].name) ∧ w'.cell? ⟨bn, on + z * 6 + 2, none⟩ = some (.string f[z].text) ∧ w'.cell? ⟨bn, on + z * 6 + 3, none⟩ = some (.slice Aa la ca) ∧ w'.cell? ⟨bn, on + z * 6 + 4, none⟩ = some (.int .i64 f[z].parent) ∧ w'.cell? ⟨bn, on + z * 6 + 5, none⟩ = some (.slice Ak lk ck) ∧ w'.cell? ⟨wo.heap.size, 0, none⟩ = some (.slice At x.c.length ct))
           (first | exact ⟨n0, n1, n2, n3, n4, n5, x0⟩ | exact y5 | exact ⟨(OwnF.cell_same (Below.heap_setCell _ _ _ _ hbnW) _).trans y5.1, (OwnF.cell_same (Below.heap_setCell _ _ _ _ hbnW) _).trans y5.2.1, (OwnF.cell_same (Below.heap_setCell _ _ _ _ hbnW) _).trans y5.2.2.1, (OwnF.cell_same (Below.heap_setCell _ _ _ _ hbnW) _).trans y5.2.2.2.1, (OwnF.cell_same (Below.heap_setCell _ _ _ _ hbnW) _).trans y5.2.2.2.2.1, (OwnF.cell_same (Below.heap_setCell _ _ _ _ hbnW) _).trans y5.2.2.2.2.2.1, (OwnF.cell_same (Below.heap_setCell _ _ _ _ hxW) _).trans y5.2.2.2.2.2.2⟩ | go_keep)
           (first | (go_at_call 25; (first | (with_reducible refine (Hfit.out _ (Below.refl _ _).drew).mono ?_) | (with_reducible refine (Hfit.out _ (Below.refl _ _)).mono ?_)); rintro e w5 ⟨rfl, hb5⟩; have hb5' := (Below.refl _ wx0).drew.trans hb5; have y5 := Hgn.out _ hb5'; obtain ⟨xc5, xf5⟩ := Hxc.out _ hb5'; have Hb5 := Lib.hid hb5'; clear hb5 hb5'))
          have z5 := Hnc.out w5 fb Hb5.out
          go_wp2_with fail
          go_roundw
          case rel => exact ⟨q + 1, by omega, by go_num, by rw [← Hany.out, hB]; rfl, Lib.hid (Hset.out _ _ Hb5.out (by rw [Hnq.out, hF]; rfl)), Lib.hid (Hbel.out _ _ Hb5.out)⟩
          case measure => simp [intOf]; omega
         | false =>
          have hF := hF0
          rw [hnp] at hF hcp
          clear hnp hF0
          go_upto_region 15 with fail
          go_region
          have z5' := Hnc.out wx0 false (Below.refl _ wx0)
          have z5 := Hnc.out wx0.drew false (Below.refl _ wx0).drew
          go_wp2_with fail
          go_roundw
          case rel => first | exact ⟨q + 1, by omega, by go_num, by rw [← Hany.out, hB]; rfl, Lib.hid ((Hset.out _ _ (Below.refl _ wx0) (by rw [Hnq.out, hF]; rfl))), Lib.hid ((Hbel.out _ _ (Below.refl _ wx0)))⟩ | exact ⟨q + 1, by omega, by go_num, by rw [← Hany.out, hB]; rfl, Lib.hid ((Hset.out _ _ (Below.refl _ wx0) (by rw [Hnq.out, hF]; rfl)).drew), Lib.hid ((Hbel.out _ _ (Below.refl _ wx0)).drew)⟩
          case measure => simp [intOf]; omega
    ·obtain rfl : q = way.length := by omega
     have hoN := ho.out
     rw [show rowTo N way.length = N by rw [← HNl2.out, rowTo_full]] at hoN
     have hcN := containsB_calls wr W1.heap.size way.length N ⟨by have := HNl2.out; omega, by simp only [maxLen]; omega⟩ (fun j hj => bool_cell hoN hj)
     rw [HNl2.out] at hcN
     have hcP := bool_cell hoN (show P < N.length by have := HNl2.out; have := HP.out; omega)
     have HoN := Lib.hid hoN; have HcN := Lib.hid hcN
     have hPw := HPw.out
     have Hb3 := Lib.hid hb3.out
     clear hoN hcN ho hb3 hqlt hq
     cases hany : N.any id with
     | false =>
      have hz : N[P]'(by have := HNl2.out; have := HP.out; omega) = false := by
       have := none_get hany P
       rwa [List.getD_eq_getElem?_getD, List.getElem?_eq_getElem (by have := HNl2.out; have := HP.out; omega)] at this
      have hres : endsB f way r = false := by rw [HEE.out, HE2.out]; exact none_get (endsL_none _ _ hany) _
      rw [hany] at HcN
      rw [hz] at hcP
      have Hres := Lib.hid hres
      clear hany hz hres hmk
      go_wp2_with (go_at_call 117; (with_reducible refine (HcN.out).mono ?_); rintro e w5 ⟨rfl, rfl⟩)
      rw [Exit.noGoto_ret]
      go_ret
      exact ⟨ret_bool Hres.out.symm, Hup.out _ Hb3.out⟩
     | true =>
      rw [hany] at HcN
      clear hany hcP
      go_wp2_with (go_at_call 117; (with_reducible refine (HcN.out).mono ?_); rintro e w5 ⟨rfl, rfl⟩)
      go_roundw
      case rel => exact ⟨k + 1, W1.heap.size, N, by omega, by go_num, rfl, HNl2.out, Lib.hid (own_base HoN.out hbW), Lib.hid (by rw [HE2.out]; simp), Lib.hid (Hup.out _ Hb3.out)⟩
      case measure => simp [intOf]; omega
  ·obtain rfl : k = r.length := by omega
   have hPN : P < NOW.length := by have := HP.out; omega
   have hc := bool_cell hrow.out hPN
   have hres : endsB f way r = NOW[P] := by
    rw [HEE.out, hEk.out, List.drop_length, endsL, List.getD_eq_getElem?_getD, List.getElem?_eq_getElem hPN]
    rfl
   have Hres := Lib.hid hres; have Hb := Lib.hid hb.out
   have hPw := HPw.out
   clear hres hrow hEk hb hlt hk hmk
   generalize NOW[P] = nn at *
   go_wp2_with fail
   rw [Exit.noGoto_ret]
   go_ret
   exact ⟨ret_bool Hres.out.symm, Hb.out⟩
end Go.Proofs.YtmbhkkophkccbaaGreat.Fn
end
section
namespace Go.Proofs.YtmbhkkophkccbaaGreat.Wk
open Go Go.RowKit Go.Shelf Go.Proofs.YtmbhkkophkccbaaGreat.Seq WS FS Mem Rd Shapes Word FFam Thr
set_option linter.unusedVariables false
set_option linter.unusedSimpArgs false
attribute [local go_sem] Oper.semAt_some Thr.wide_fn Thr.wide_depth Thr.wide_round

noncomputable def orderL (f : Fo) (i : Int) : List Int := if isNode f i then order f i else []
def nodeErr (f : Fo) (i : Int) : Int := if isNode f i then 0 else 70
def OrderPost (f : Fo) (i : Int) (w : World) (e : Ending) (w' : World) : Prop := ∃ v, e = .returned (.tuple #[v, .int .i64 (nodeErr f i)]) ∧ RdL (intE .i64) 1 w'.heap.size w' v (orderL f i) ∧ Below w.heap.size w w'
theorem order_wf {f : Fo} (hm : mayB f = true) {i : Int} (hi : isNode f i = true) : ∀ x ∈ order f i, (Lit.int .i64 x).wf = true := by
 intro x hx
 have h := may_is hm
 have hn := ((order_mem h hi x).1 hx).1
 have := (node_iff f x).1 hn
 have := h.len
 simp only [Lit.wf, Bool.and_eq_true, decide_eq_true_eq]
 have e1 : IntKind.i64.min = -9223372036854775808 := rfl
 have e2 : IntKind.i64.max = 9223372036854775807 := rfl
 first | omega | (constructor <;> omega)
def OrderNew (f : Fo) (i : Int) (w : World) (e : Ending) (w' : World) : Prop := ∃ v, e = .returned (.tuple #[v, .int .i64 (nodeErr f i)]) ∧ RdL (intE .i64) 1 w'.heap.size w' v (orderL f i) ∧ Below w.heap.size w w' ∧ Fresh w.heap.size v
set_option maxRecDepth 100000 in
set_option maxHeartbeats 4000000 in
theorem OrderNew_calls (w : World) (v : Value) (f : Fo) (h : RdF w.heap.size w v f) (hm : mayB f = true) (i : Int) (hwi : (Lit.int .i64 i).wf = true) : Calls Tryz.prog 46 #[v, .int .i64 i] w (OrderNew f i w) := by
 obtain ⟨A0, c0, rfl, hl0, hc0, h'⟩ := h.form
 simp only [maxLen] at hc0
 obtain ⟨w1, hw1⟩ : ∃ w1, w.alloc (.cells #[.slice none 0 0] 34) = w1 := ⟨_, rfl⟩
 have hb1 : Below w.heap.size w w1 := by rw [← hw1]; exact (Below.refl _ _).alloc (Nat.le_refl _) _
 have hq1 : w1.heap[w.heap.size]? = some (.cells #[.slice none 0 0] 34 (0, 0)) := by rw [← hw1]; exact World.alloc_heap_new _ _
 have hs1 : w1.heap.size = w.heap.size + 1 := by rw [← hw1]; simp
 have hr1 : RdF w.heap.size w1 (.slice A0 f.length c0) f := h'.below nodeE_keeps hb1 (Nat.le_refl _)
 have Hw1 := Lib.hid hw1
 clear hw1 h h'
 cases hn : isNode f i with
 | false =>
  have hh := has_no w1 A0 f.length c0 i (node_no hn)
  have hE : nodeErr f i = 70 := by unfold nodeErr; rw [hn]; rfl
  have hO : orderL f i = [] := by unfold orderL; rw [hn]; rfl
  have hc1 := cell_of hq1
  have hf1 := free_of hq1 0
  have Hh := Lib.hid hh; have HE := Lib.hid hE; have HO := Lib.hid hO; have Hb1 := Lib.hid hb1; have Hq1 := Lib.hid hq1
  clear hh hn hE hO hr1 hb1 hq1 hs1
  refine (callsIn_wide (n := 0)).1 ?_
  refine callsIn_of_wp_marks Tryz.func46 rfl trivial ?_ rfl
  simp only [Tryz.ntmps46, List.size_toArray, List.length_cons, List.length_nil, Nat.reduceAdd, Nat.reduceSub, Array.replicate_succ, Array.replicate_zero, List.push_toArray, List.append_toArray, List.nil_append, List.cons_append]
  gi_upto_region 1 with fail
  rw [Hw1.out]
  gi_wp2_with (gi_at_call 111; (refine (callsIn_wide.2 Hh.out).mono ?_); rintro e w5 ⟨rfl, rfl⟩)
  refine ⟨.tuple #[.slice none 0 0, .int .i64 70], by simp [results, Tryz.results46, go_sem, cell_of (set_one Hq1.out)], ?_⟩
  exact ⟨_, by rw [HE.out], by rw [HO.out]; exact RdL.nil, Hb1.out.setCell (Nat.le_refl _) _, fun b o n c e h0 => by cases e⟩
 | true =>
  obtain ⟨k, rfl, hk⟩ := node_nat hn
  have hh := has_yes w1 A0 f.length c0 k hk
  have Hh := Lib.hid hh
  clear hh
  refine (callsIn_wide (n := 0)).1 ?_
  refine callsIn_of_wp_marks Tryz.func46 rfl trivial ?_ rfl
  simp only [Tryz.ntmps46, List.size_toArray, List.length_cons, List.length_nil, Nat.reduceAdd, Nat.reduceSub, Array.replicate_succ, Array.replicate_zero, List.push_toArray, List.append_toArray, List.nil_append, List.cons_append]
  gi_upto_region 1 with fail
  rw [Hw1.out]
  gi_wp2_with (first | (gi_at_call 111; (refine (callsIn_wide.2 Hh.out).mono ?_); rintro e w5 ⟨rfl, rfl⟩) | (gi_at_call 112; (refine (callsIn_wide.2 (through_calls _ _ _ _ _)).mono ?_); rintro e w5 ⟨rfl, hw5⟩))
  have hz5 : w5.heap.size = w.heap.size + 3 := by rw [← hw5]; simp; omega
  have q0 : w5.heap[w.heap.size]? = some (.cells #[.slice none 0 0] 34 (0, 0)) := by rw [← hw5]; exact heap_old (heap_old hq1)
  have qf : w5.heap[w.heap.size + 1]? = some (.cells #[.slice A0 f.length c0] 29 (0, 0)) := by rw [← hw5, ← hs1]; exact heap_old (World.alloc_heap_new w1 _)
  have qi : w5.heap[w.heap.size + 1 + 1]? = some (.cells #[.int .i64 (k : Int)] 3 (0, 0)) := by
   rw [← hw5, ← hs1]
   have := World.alloc_heap_new (w1.alloc (.cells #[.slice A0 f.length c0] 29)) (.cells #[.int .i64 (k : Int)] 3)
   rwa [World.size_alloc] at this
  have hb15 : Below w1.heap.size w1 w5 := by rw [← hw5]; exact ((Below.refl _ _).alloc (Nat.le_refl _) _).alloc (by simp) _
  have hb5 : Below w.heap.size w w5 := bthen hb1 hb15
  have hr5 : RdF w.heap.size w5 (.slice A0 f.length c0) f := hr1.keep nodeE_keeps (hb15.mono (by omega)) (Nat.le_refl _)
  have hol := order_len (may_is hm).fam (may_is hm).climb hn
  have hl60 := (may_is hm).len
  have hwf := order_wf hm hn
  have hE : nodeErr f k = 0 := by unfold nodeErr; rw [hn]; rfl
  have hO : orderL f k = order f k := by unfold orderL; rw [hn]; rfl
  have HE := Lib.hid hE; have HO := Lib.hid hO; have Hwf := Lib.hid hwf; have Hb5 := Lib.hid hb5; have Hz5 := Lib.hid hz5
  clear hw5 hb1 hr1 Hw1 Hh hq1 hE hO hwf hb15 hb5
  refine wpIn_range rfl (enters_of Tryz.func188 (by kernel_rfl) rfl) (through_seq f hm k hn hwi w.heap.size (w.heap.size + 1 + 1) (w.heap.size + 1) (by omega) (by omega) (.slice A0 f.length c0))
   (fun W ho => ⟨ho.keep qi (fun h => h), ho.keep qf (fun h => h), hr5.keep nodeE_keeps (ho.toBelow (by omega) (fun b hb => hb.elim)) (Nat.le_refl _), by have := ho.size; omega⟩)
   (fun m X W => ∃ sv, W.heap[w.heap.size]? = some (.cells #[sv] 34 (0, 0)) ∧ W.ownsRow w.heap.size 3 1 sv (((order f k).take m).map (Value.int .i64)).length (((order f k).take m).map (Value.int .i64)) ∧ (∀ b, X b ↔ (b = w.heap.size ∨ sv.ownBlock = some b)) ∧ (∀ g, sv.ownBlock = some g → g ≠ w.heap.size))
   (fun c m X W => False) ?hI (fun c => ⟨fun _ _ _ _ h _ => h, fun _ _ _ _ h _ => h.elim⟩) (fun b => b = w.heap.size) (fun b hb => ⟨fun h => h, fun h => by omega⟩)
   ⟨_, q0, by rw [List.take_zero]; exact World.ownsRow_nil _ _ _ _, fun b => by simp [Value.ownBlock], fun g hg => by simp [Value.ownBlock] at hg⟩
   (fun b h => by rcases h with h | h | h | h; exact h.elim; omega; omega; omega)
   (fun m => { tmps := #[.slice A0 f.length c0, .int .i64 (k : Int), undef, undef, .pointer (some ⟨w.heap.size, 0, none⟩), .int .i64 0, ((order f k).map (Value.int .i64)).getD m undef, .slice A0 f.length c0, .int .i64 (k : Int), .int .i64 0, .int .i64 0, .bool false, undef, .slice A0 f.length c0, .int .i64 (k : Int),
    .func (.func 188) #[] #[.pointer (some ⟨w.heap.size + 1 + 1, 0, none⟩), .pointer (some ⟨w.heap.size + 1, 0, none⟩)], ((order f k).map (Value.int .i64)).getD m undef, undef, undef, undef, undef, undef], defers := [] })
   ?assign ?body ?done ?stop
  case hI =>
   refine ⟨?_, ?_⟩
   ·rintro m X W W' ⟨sv, h1, h2, h3, h4⟩ ho
    exact ⟨sv, ho.keep h1 (fun h => h ((h3 _).2 (.inl rfl))), own_keep h2 (fun b hb => ho.block b (h2.lt b hb).2 (fun h => h ((h3 _).2 (.inr hb)))), h3, h4⟩
   ·rintro m X W b ⟨sv, h1, h2, h3, h4⟩ hb
    rcases (h3 b).1 hb with rfl | hb
    ·exact lt_heap h1
    ·exact (h2.lt b hb).2
  case assign =>
   intro l m hm' W K hK
   rw [show ((order f k).map (Value.int .i64)).getD m undef = ((order f k).map (Value.int .i64))[m] by rw [List.getD_eq_getElem?_getD, List.getElem?_eq_getElem hm']; rfl] at hK
   generalize ((order f k).map (Value.int .i64))[m] = x at *
   gi_wp2
   exact hK
  case body =>
   rintro l m hm' X' W' ⟨sv, h1, h2, h3, h4⟩
   have hmo : m < (order f k).length := by simpa using hm'
   rw [show ((order f k).map (Value.int .i64)).getD m undef = .int .i64 (order f k)[m] by rw [List.getD_eq_getElem?_getD, List.getElem?_eq_getElem hm']; simp]
   have hs6 := lt_heap h1
   obtain ⟨A5, n5, rfl, _, _⟩ := own_form h2
   have hc5 := cell_of h1
   have hf5 := free_of h1 0
   have hnx : (order f k).take (m + 1) = (order f k).take m ++ [(order f k)[m]] := List.take_succ_eq_append_getElem hmo
   have hll : (((order f k).take m).map (Value.int .i64)).length ≤ 200 := by rw [List.length_map, List.length_take]; omega
   obtain ⟨xs, hxs⟩ : ∃ xs, xs = ((order f k).take m).map (Value.int .i64) := ⟨_, rfl⟩
   rw [← hxs] at h1 h2 h3 h4 hc5 hll
   have hofX : ∀ (w1 : World), W'.grownBy w1 (Value.slice A5 xs.length n5).ownBlock → w1.heap[w.heap.size]? = W'.heap[w.heap.size]? := fun w1 hg => hg.block _ hs6 (fun e => h4 _ e.symm rfl)
   have hb6 : w.heap.size ≤ W'.heap.size := by omega
   have H2 := Lib.hid h2; have H3 := Lib.hid h3; have H4 := Lib.hid h4; have Hnx := Lib.hid hnx; have HofX := Lib.hid hofX; have H1 := Lib.hid h1; have Hxs := Lib.hid hxs
   clear h1 h2 h3 h4 hnx hofX hxs q0 qf qi hr5
   generalize (order f k)[m] = y at *
   gi_wp2_with (gi_at_builtin; ((refine in_append W' w.heap.size rfl _ _ 34 3 (.int .i64 0) 8 rfl Tryz.underlying34 info_int rfl (.slice A5 xs.length n5) xs (.int .i64 y) rfl rfl rfl H2.out hb6 (by omega) (by simp only [maxLen]; omega) ?_); rintro v1 w1' hown hgrow ⟨g1, cap1, rfl, hat⟩; have hS1 := HofX.out w1' hgrow; have hrow1 := hS1.trans H1.out; have hr1 := cell_of hrow1; have hr2 := free_of hrow1 0; have Hown := Lib.hid hown; have Hgrow := Lib.hid hgrow; have Hat := Lib.hid hat; have Hrow1 := Lib.hid hrow1; clear hown hgrow hat hS1 hrow1))
   have hg1S : g1 ≠ w.heap.size := by
    rcases Hat.out with h | h
    ·exact H4.out g1 h
    ·omega
   refine ⟨fun b => b = w.heap.size ∨ b = g1, ?_, ?_, ⟨_, set_one Hrow1.out, ?_, ?_, ?_⟩⟩
   ·rintro b (rfl | rfl)
    ·exact .inl ((H3.out _).2 (.inl rfl))
    ·rcases Hat.out with h | h
     ·exact .inl ((H3.out _).2 (.inr h))
     ·exact .inr h
   ·exact (Off.grown Hgrow.out (fun r hr => (H3.out r).2 (.inr hr))).trans (Off.setCell _ _ _ ((H3.out w.heap.size).2 (.inl rfl)))
   ·rw [Hnx.out, List.map_append, List.map_cons, List.map_nil, ← Hxs.out]
    have ho := Hown.out
    rw [show (xs ++ [Value.int .i64 y]).length = xs.length + 1 by simp] at ho ⊢
    refine own_keep ho (fun b hb => set_other (fun e => ?_))
    simp only [Value.ownBlock] at hb
    injection hb with hb
    exact hg1S (hb.trans e)
   ·intro b
    simp only [Value.ownBlock]
    constructor
    ·rintro (h | h)
     ·exact .inl h
     ·exact .inr (by rw [h])
    ·rintro (h | h)
     ·exact .inl h
     ·right; injection h with h; exact h.symm
   ·intro g' hg'
    simp only [Value.ownBlock] at hg'
    injection hg' with hg'
    exact fun e => hg1S (hg'.trans e)
  case done =>
   rintro D X' W hD hXD hgr hof ⟨sv, h1, h2, h3, h4⟩ hK
   have hlen : ((order f k).map (Value.int .i64)).length = (order f k).length := by simp
   rw [hlen, List.take_of_length_le (Nat.le_refl _), hlen] at h2
   have hc2 := cell_of h1
   have hf2 := free_of h1 0
   have hDs : D ≠ w.heap.size := by omega
   obtain ⟨A5, n5, rfl, _, _⟩ := own_form h2
   have H1 := Lib.hid h1; have H2 := Lib.hid h2; have H3 := Lib.hid h3; have H4 := Lib.hid h4; have HK := Lib.hid hK; have Hof := Lib.hid hof
   clear h1 h2 h3 h4 hK hof hgr q0 qf qi hr5
   gi_wp2
   refine ⟨by simp, .inl ⟨_, _, rfl, run_takeDeferred ((set_other hDs).trans HK.out), ?_⟩⟩
   obtain ⟨WF, hWF⟩ : ∃ WF, (W.setCell ⟨w.heap.size, 0, none⟩ (.slice A5 (order f k).length n5)).putObj D (.deferred none) = WF := ⟨_, rfl⟩
   have hrowF : WF.heap[w.heap.size]? = some (.cells #[.slice A5 (order f k).length n5] 34 (0, 0)) := by rw [← hWF]; exact (put_other (fun e => hDs e.symm)).trans (set_one H1.out)
   have hownF : WF.ownsRow w.heap.size 3 1 (.slice A5 (order f k).length n5) (order f k).length ((order f k).map (Value.int .i64)) := by
    rw [← hWF]
    exact own_keep H2.out (fun b hb => (put_other (fun (e : b = D) => hXD ((H3.out D).2 (.inr (e ▸ hb))))).trans (set_other (H4.out b hb)))
   have hbF : Below w.heap.size w WF := by
    rw [← hWF]
    have b1 := (Hb5.out.trans (Hof.out.toBelow (B := w.heap.size) (by omega) (fun b h => by rcases h with h | h; omega; exact h.elim))).setCell (p := ⟨w.heap.size, 0, none⟩) (Nat.le_refl _) (.slice A5 (order f k).length n5)
    exact b1.trans (Off.toBelow (Y := fun b => b = D) (Off.putObj _ _ _ rfl) b1.size (fun b h => by omega))
   have hcF := cell_of hrowF
   rw [hWF]
   refine ⟨.tuple #[.slice A5 (order f k).length n5, .int .i64 0], by simp [results, Tryz.results46, hcF, go_sem], _, by rw [HE.out], ?_, hbF, fresh_own hownF⟩
   rw [HO.out]
   exact RdL.of_own (xs := (order f k).map (Value.int .i64)) hownF rfl (fun g hg => (hownF.lt g hg).2) (fun j hj => ⟨by rw [Nat.mul_one, List.drop_eq_getElem_cons (by simpa using hj)]; simp, Hwf.out _ (List.getElem_mem hj)⟩)
  case stop => exact fun D c k X' W _ _ _ _ _ h _ => h.elim
theorem Order_calls (w : World) (v : Value) (f : Fo) (h : RdF w.heap.size w v f) (hm : mayB f = true) (i : Int) (hwi : (Lit.int .i64 i).wf = true) : Calls Tryz.prog 46 #[v, .int .i64 i] w (OrderPost f i w) :=
 (OrderNew_calls w v f h hm i hwi).mono fun e w' ⟨u, h1, h2, h3, _⟩ => ⟨u, h1, h2, h3⟩
end Go.Proofs.YtmbhkkophkccbaaGreat.Wk
end
