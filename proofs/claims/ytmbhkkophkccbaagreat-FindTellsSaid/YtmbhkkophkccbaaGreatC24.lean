import Derived.Laws.OwnMore
import Derived.Maps.AppendAt
import Derived.Test.YtmbhkkophkccbaaGreatC14
import Derived.Test.YtmbhkkophkccbaaGreatC22
import Derived.Test.YtmbhkkophkccbaaGreatC02
import Derived.Test.YtmbhkkophkccbaaGreatC09
import Derived.Test.YtmbhkkophkccbaaGreatC17
import Derived.Test.YtmbhkkophkccbaaGreatC12
section
namespace Go.Proofs.YtmbhkkophkccbaaGreat.Fi
open Go Go.RowKit Go.Proofs.YtmbhkkophkccbaaGreat.Seq WS FS Mem Rd Shapes Word FFam Grown
set_option linter.unusedVariables false
set_option linter.unusedSimpArgs false
set_option maxRecDepth 100000 in
set_option maxHeartbeats 4000000 in
theorem bounded_calls (w : World) (v : Value) (l : List Opn) (h : RdO w.heap.size w v l) : Calls Tryz.prog 12 #[v] w fun e w' => e = .returned (.bool (bndO l)) ∧ w = w' := by
 obtain ⟨A0, c0, rfl, hl0, hc0, h'⟩ := h.form
 simp only [maxLen] at hc0
 have Hh := Lib.hid h'
 have hno := fun k (hk : k < l.length) hx => bndO_no (l := l) hk hx
 have Hno := Lib.hid hno
 clear h h' hno
 go_enter Tryz.func12, Tryz.ntmps12
 go_wp2_with fail
 go_loop [3] (fun i => ∃ k : Nat, k ≤ l.length ∧ i = .int .i64 k ∧ Hid ((l.take k).all opB = true)) (fun i => l.length - (intOf i).toNat)
 case atStart => exact ⟨0, Nat.zero_le _, rfl, Lib.hid rfl⟩
 case round =>
  obtain ⟨k, hk, rfl, hall⟩ := hrel
  by_cases hlt : k < l.length
  ·obtain ⟨b, o, rfl, hbl, _, _, _, _, g4, g5, m1, m2, _, _⟩ := op_at Hh.out hlt
   have hno := Hno.out k hlt
   have htk : l.take (k + 1) = l.take k ++ [l[k]] := List.take_succ_eq_append_getElem hlt
   have hallk : opB l[k] = true → (l.take (k + 1)).all opB = true := fun hx => by rw [htk, List.all_append, hall.out]; simp [hx]
   have Hallk := Lib.hid hallk; have Hn := Lib.hid hno
   clear hallk hno htk hall m1 m2
   generalize l[k] = x at *
   by_cases h1 : x.name.size ≤ 300
   ·by_cases h2 : x.text.size ≤ 300
    ·have hx : opB x = true := by unfold opB; rw [decide_eq_true h1, decide_eq_true h2]; rfl
     have Hx := Lib.hid hx
     clear hx
     go_wp2_with fail
     go_round
     case rel => exact ⟨k + 1, by omega, by go_num, Lib.hid (Hallk.out Hx.out)⟩
     case measure => simp [intOf]; omega
    ·have hx : opB x = false := by unfold opB; rw [decide_eq_false h2]; simp
     have Hx := Lib.hid hx
     clear hx
     go_wp2_with fail
     go_ret
     exact ⟨by rw [Hn.out Hx.out]; rfl, rfl⟩
   ·have hx : opB x = false := by unfold opB; rw [decide_eq_false h1]; rfl
    have Hx := Lib.hid hx
    clear hx
    go_wp2_with fail
    go_ret
    exact ⟨by rw [Hn.out Hx.out]; rfl, rfl⟩
  ·have hr : bndO l = decide ((l.length : Int) ≤ 150) := by
    unfold bndO
    have := hall.out
    rw [List.take_of_length_le (by omega)] at this
    rw [this, Bool.true_and]
    rw [Bool.eq_iff_iff]; simp; try omega
   have Hr := Lib.hid hr
   clear hr hall
   go_wp2_with fail
   go_ret
   exact ⟨by rw [Hr.out]; rfl, rfl⟩
end Go.Proofs.YtmbhkkophkccbaaGreat.Fi
end
section
namespace Go.Proofs.YtmbhkkophkccbaaGreat.Fi
open Go Go.RowKit Go.Proofs.YtmbhkkophkccbaaGreat.Seq WS FS Mem Rd Shapes Word FFam Grown
set_option linter.unusedVariables false
set_option linter.unusedSimpArgs false
def GrownPost (l : List Opn) (w : World) (e : Ending) (w' : World) : Prop := ∃ v, e = .returned v ∧ RdF w'.heap.size w' v (growF l) ∧ Below w.heap.size w w'
set_option maxRecDepth 100000 in
set_option maxHeartbeats 4000000 in
theorem grown_calls (w : World) (v : Value) (l : List Opn) (h : RdO w.heap.size w v l) : Calls Tryz.prog 15 #[v] w (GrownPost l w) := by
 have hnew := FNew.New_calls w
 have hrd := fun w' (hb : Below w.heap.size w w') => h.below opE_keeps (w' := w') hb (Nat.le_refl _)
 obtain ⟨A0, c0, rfl, hl0, hc0, _⟩ := h.form
 simp only [maxLen] at hc0
 have Hnew := Lib.hid hnew; have Hrd := Lib.hid hrd
 clear h hnew hrd
 go_enter Tryz.func15, Tryz.ntmps15
 go_wp2_with (go_at_call 44; ((with_reducible refine (Hnew.out).mono ?_); rintro e w1 ⟨v1, rfl, hr1, hb1⟩; have Hr1 := Lib.hid hr1; have Hb1 := Lib.hid hb1; clear hr1 hb1))
 go_loopw [3, 4] (fun v i wr => ∃ k : Nat, k ≤ l.length ∧ i = .int .i64 k ∧ RdF wr.heap.size wr v (growF (l.take k)) ∧ Below w.heap.size w wr) (fun _ i _ => l.length - (intOf i).toNat)
 case atStart => exact ⟨0, Nat.zero_le _, rfl, Hr1.out, Hb1.out⟩
 case round =>
  obtain ⟨k, hk, rfl, hr, hb⟩ := hrel
  have hmg := grow_may (l.take k)
  by_cases hlt : k < l.length
  ·obtain ⟨b, o, rfl, hbl, g0, g1, g2, g3, g4, g5, m1, m2, m3, m4⟩ := op_at (Hrd.out _ hb) hlt
   have hone := Doings.one_calls wr _ _ l[k] hr hmg m1 m2 m3 m4
   have hs : growF (l.take (k + 1)) = oneF (growF (l.take k)) l[k] := by rw [List.take_succ_eq_append_getElem hlt, grow_snoc]
   obtain ⟨A3, c3, rfl, _, _, _⟩ := hr.form
   have Hone := Lib.hid hone; have Hs := Lib.hid hs; have Hb := Lib.hid hb
   clear hone hs hb hr hmg m1 m2 m3 m4
   generalize l[k] = x at *
   go_wp2_with (go_at_call 45; ((with_reducible refine (Hone.out).mono ?_); rintro e w5 ⟨v5, rfl, hr5, hb5⟩; have Hr5 := Lib.hid hr5; have Hb5 := Lib.hid hb5; clear hr5 hb5))
   go_roundw
   case rel => exact ⟨k + 1, by omega, by go_num, by rw [Hs.out]; exact Hr5.out, bthen Hb.out Hb5.out⟩
   case measure => simp [intOf]; omega
  ·have hl : growF (l.take k) = growF l := by rw [List.take_of_length_le (by omega)]
   rw [hl] at hr hmg
   have hmy := FMay.May_calls wr _ _ hr (fun n hn => by have := Work.may_kids hmg n hn; omega)
   rw [hmg] at hmy
   obtain ⟨A3, c3, rfl, _, _, _⟩ := hr.form
   have Hmy := Lib.hid hmy; have Hr := Lib.hid hr; have Hb := Lib.hid hb
   clear hmy hr hb hmg hl
   go_wp2_with (go_at_call 42; ((with_reducible refine (Hmy.out).mono ?_); rintro e w5 ⟨rfl, hb5⟩; have Hb5 := Lib.hid hb5; clear hb5))
   go_ret
   exact ⟨_, rfl, (Hr.out.below nodeE_keeps Hb5.out (Nat.le_refl _)).mono nodeE_keeps Hb5.out.size, bthen Hb.out Hb5.out⟩
end Go.Proofs.YtmbhkkophkccbaaGreat.Fi
end
section
namespace Go.Proofs.YtmbhkkophkccbaaGreat.Fi
open Go Go.RowKit Go.Proofs.YtmbhkkophkccbaaGreat.Seq WS FS Mem Rd Shapes Word FFam Grown Fn Pa
set_option linter.unusedVariables false
set_option linter.unusedSimpArgs false
abbrev opsF : Array Value := #[.int .i64 1, .int .i64 0, .int .i64 0, .int .i64 0, .string ⟨#[65]⟩, .string ⟨#[]⟩, .int .i64 4, .int .i64 1, .int .i64 0, .int .i64 0, .string ⟨#[]⟩, .string ⟨#[]⟩, .int .i64 1, .int .i64 0, .int .i64 0, .int .i64 0, .string ⟨#[98]⟩, .string ⟨#[]⟩,
 .int .i64 4, .int .i64 2, .int .i64 1, .int .i64 0, .string ⟨#[]⟩, .string ⟨#[]⟩, .int .i64 6, .int .i64 2, .int .i64 0, .int .i64 0, .string ⟨#[99, 108, 97, 115, 115]⟩, .string ⟨#[120, 32, 121]⟩]
def opL (o : Opn) : List Value := [.int .i64 o.kind, .int .i64 o.id, .int .i64 o.to, .int .i64 o.at_, .string o.name, .string o.text]
theorem d_ok : ∀ o ∈ fOps, OkO o := by unfold OkO; decide
theorem ops_rd (w : World) (b : Nat) (h : w.heap[b]? = some (.cells opsF 104 (0, 0))) : RdO w.heap.size w (.slice (some ⟨b, 0, none⟩) 5 5) fOps := by
 have l1 := lt_heap h
 refine ⟨_, 5, rfl, by decide, by decide, fun h0 => ⟨b, 0, rfl, l1, fun i hi => ?_⟩⟩
 have hi5 : i < 5 := hi
 match i, hi5 with
 | 0, _ => exact ⟨opL fOps[0], rfl, fun j u hj => by rw [cell_of_row _ _ _ _ _ _ h]; exact LShown.six 0 hj (by rfl), rfl, d_ok _ (List.getElem_mem _)⟩
 | 1, _ => exact ⟨opL fOps[1], rfl, fun j u hj => by rw [cell_of_row _ _ _ _ _ _ h]; exact LShown.six 6 hj (by rfl), rfl, d_ok _ (List.getElem_mem _)⟩
 | 2, _ => exact ⟨opL fOps[2], rfl, fun j u hj => by rw [cell_of_row _ _ _ _ _ _ h]; exact LShown.six 12 hj (by rfl), rfl, d_ok _ (List.getElem_mem _)⟩
 | 3, _ => exact ⟨opL fOps[3], rfl, fun j u hj => by rw [cell_of_row _ _ _ _ _ _ h]; exact LShown.six 18 hj (by rfl), rfl, d_ok _ (List.getElem_mem _)⟩
 | 4, _ => exact ⟨opL fOps[4], rfl, fun j u hj => by rw [cell_of_row _ _ _ _ _ _ h]; exact LShown.six 24 hj (by rfl), rfl, d_ok _ (List.getElem_mem _)⟩
theorem g_sm : ∀ n ∈ g5, Sm n := by unfold Sm; decide
theorem demo_sm : SmS demoL := (parse_sm demo_parse).2
set_option maxRecDepth 100000 in
set_option maxHeartbeats 4000000 in
theorem shown_calls (w : World) : Calls Tryz.prog 14 #[] w fun e w' => e = .returned (.bool true) ∧ Below w.heap.size w w' := by
 have hb0 : Below w.heap.size w (w.alloc (.cells opsF 104)) := (Below.refl _ _).alloc (Nat.le_refl _) _
 have hg : Calls Tryz.prog 15 #[.slice (some ⟨w.heap.size, 0, none⟩) 5 5] (w.alloc (.cells opsF 104)) (fun e w' => ∃ A c, e = .returned (.slice A 3 c) ∧ RdF w'.heap.size w' (.slice A 3 c) g5 ∧ Below w.heap.size w w') := by
  refine (grown_calls (w.alloc (.cells opsF 104)) _ fOps (ops_rd _ _ (World.alloc_heap_new _ _))).mono ?_
  rintro e w' ⟨v, rfl, hr, hb⟩
  rw [show growF fOps = g5 from g_grow] at hr
  obtain ⟨A, c, rfl, _, _, hr'⟩ := hr.form
  exact ⟨A, c, rfl, hr', bthen hb0 hb⟩
 have hp : ∀ w', Calls Tryz.prog 27 #[.string ⟨#[97, 32, 46, 121, 44, 32, 97, 32, 62, 32, 99]⟩] w' (fun e w'' => ∃ v, e = .returned (.tuple #[v, .int .i64 0, .int .i64 0]) ∧ RdSel w''.heap.size w'' v demoL ∧ Below w'.heap.size w' w'') := fun w' => by
  refine (parse_calls demoT (by decide) w').mono ?_
  unfold ParseQ
  rw [demo_parse]
  rintro e w'' ⟨hb, v, rfl, hr⟩
  exact ⟨v, rfl, sel_of hr, hb⟩
 have hall : ∀ w' A c v, RdF w'.heap.size w' (.slice A 3 c) g5 → RdSel w'.heap.size w' v demoL → Calls Tryz.prog 17 #[.slice A 3 c, .int .i64 0, v] w' (fun e w'' => ∃ b o c', e = .returned (.slice (some ⟨b, o, none⟩) 1 c') ∧ b < w''.heap.size ∧ w''.cell? ⟨b, o, none⟩ = some (.int .i64 2) ∧ Below w'.heap.size w' w'') := fun w' A c v hr hs => by
  refine (All_calls w' _ g5 hr n5 g_sm 0 (by decide) v demoL hs demo_sm).mono ?_
  rintro e w'' ⟨u, rfl, hu, hb⟩
  rw [g_all] at hu
  obtain ⟨A', c', rfl, _, _, _⟩ := id hu
  obtain ⟨b, o, rfl, hlt, g0, _⟩ := intE_at hu (i := 0) (by decide)
  exact ⟨b, o, c', rfl, hlt, by simpa using g0, hb⟩
 have hfirst : ∀ w' A c v, RdF w'.heap.size w' (.slice A 3 c) g5 → RdSel w'.heap.size w' v demoL → Calls Tryz.prog 18 #[.slice A 3 c, .int .i64 2, v] w' (fun e w'' => e = .returned (.tuple #[.int .i64 2, .bool true]) ∧ Below w'.heap.size w' w'') := fun w' A c v hr hs => by
  have := First_calls w' _ g5 hr n5 g_sm 2 (by decide) v demoL hs demo_sm
  rw [g_first] at this
  exact this
 have his : ∀ w' A c v, RdF w'.heap.size w' (.slice A 3 c) g5 → RdSel w'.heap.size w' v demoL → Calls Tryz.prog 23 #[.slice A 3 c, .int .i64 2, v] w' (fun e w'' => e = .returned (.bool true) ∧ Below w'.heap.size w' w'') := fun w' A c v hr hs => by
  have := Is_calls w' _ g5 hr n5 g_sm 2 v demoL hs demo_sm
  rw [g_is2] at this
  exact this
 have Hg := Lib.hid hg; have Hp := Lib.hid hp; have Hall := Lib.hid hall; have Hfirst := Lib.hid hfirst; have His := Lib.hid his
 clear hg hp hall hfirst his hb0
 go_enter Tryz.func14, Tryz.ntmps14
 go_upto_region 2 with (go_at_call 15; (with_reducible refine (Hg.out).mono ?_); rintro e w5 ⟨A5, c5, rfl, hr5, hb5⟩; have Hr5 := Lib.hid hr5; have Hb5 := Lib.hid hb5; clear hr5 hb5)
 have hrd := fun w' (hb : Below w5.heap.size w5 w') => (Hr5.out.below nodeE_keeps (w' := w') hb (Nat.le_refl _)).mono nodeE_keeps hb.size
 have Hrd := Lib.hid hrd
 clear hrd
 go_upto_region 3 with (go_at_call 27; (with_reducible refine (Hp.out _).mono ?_); rintro e w6 ⟨v6, rfl, hr6, hb6⟩; have Hr6 := Lib.hid hr6; have Hb6 := Lib.hid hb6; clear hr6 hb6)
 have hrl := fun w' (hb : Below w6.heap.size w6 w') => (Hr6.out.below rowE_keeps (w' := w') hb (Nat.le_refl _)).mono rowE_keeps hb.size
 have Hrl := Lib.hid hrl
 clear hrl
 go_upto_region 4 with (go_at_call 17; (with_reducible refine (Hall.out _ _ _ _ (Hrd.out _ Hb6.out) Hr6.out).mono ?_); rintro e w7 ⟨b7, o7, c7, rfl, hl7, h7, hb7⟩; have Hl7 := Lib.hid hl7; have H7 := Lib.hid h7; have Hb7 := Lib.hid hb7; clear hb7 hl7 h7)
 go_upto_region 5 with (go_at_call 18; (with_reducible refine (Hfirst.out _ _ _ _ (Hrd.out _ (bthen Hb6.out Hb7.out)) (Hrl.out _ Hb7.out)).mono ?_); rintro e w8 ⟨rfl, hb8⟩; have Hb8 := Lib.hid (bthen Hb7.out hb8); have y8 := cell_grow hb8 H7.out; clear hb8)
 have hr8 := Hrd.out _ (bthen Hb6.out Hb8.out)
 obtain ⟨bn, on, Aa, ca, Ak, ck, rfl, hbn, n0, n1, n2, n3, n4, n5, ra, _, _, _, _, _, _, _, _, _⟩ := node_at hr8 (i := 1) (by decide)
 have hN : Sm g5[1] ∧ fitsC g5[1] [] = true := ⟨g_sm _ (List.getElem_mem _), g_fits⟩
 generalize g5[1] = N at *
 have hfit := fun w' (hb : Below w8.heap.size w8 w') => Fits_calls w' N (.slice Aa N.attrs.length ca) (.slice Ak N.kids.length ck) (.slice none 0 0) [] ((ra.below attrE_keeps (w' := w') hb (Nat.le_refl _)).mono attrE_keeps hb.size) RdL.nil hN.1 (fun t ht => by cases ht)
 unfold SoPost at hfit
 rw [hN.2] at hfit
 have hnode := fun w' (hb : Below w8.heap.size w8 w') => (⟨cell_grow hb n0, cell_grow hb n1, cell_grow hb n2, cell_grow hb n3, cell_grow hb n4, cell_grow hb n5⟩ : w'.cell? ⟨bn, on + 6, none⟩ = _ ∧ w'.cell? ⟨bn, on + 6 + 1, none⟩ = _ ∧ w'.cell? ⟨bn, on + 6 + 2, none⟩ = _ ∧ w'.cell? ⟨bn, on + 6 + 3, none⟩ = _ ∧ w'.cell? ⟨bn, on + 6 + 4, none⟩ = _ ∧ w'.cell? ⟨bn, on + 6 + 5, none⟩ = _)
 have Hfit := Lib.hid hfit; have Hnode := Lib.hid hnode; have Hr8 := Lib.hid hr8
 clear hfit hnode hr8 hN n0 n1 n2 n3 n4 n5 ra
 go_wp2_with (first | (go_at_call 23; (with_reducible refine (His.out _ _ _ _ Hr8.out (Hrl.out _ Hb8.out)).mono ?_); rintro e w9 ⟨rfl, hb9⟩; obtain ⟨n0, n1, n2, n3, n4, n5⟩ := Hnode.out _ hb9; have Hb9 := Lib.hid hb9; clear hb9) | (go_at_call 25; (with_reducible refine (Hfit.out _ Hb9.out).mono ?_); rintro e w10 ⟨rfl, hb10⟩; have Hb10 := Lib.hid (bthen Hb9.out hb10); clear hb10))
 go_ret
 exact ⟨rfl, bthen Hb5.out (bthen Hb6.out (bthen Hb8.out Hb10.out))⟩
end Go.Proofs.YtmbhkkophkccbaaGreat.Fi
end
section
namespace Go.Proofs.YtmbhkkophkccbaaGreat.Fi
open Go Go.RowKit Go.Proofs.YtmbhkkophkccbaaGreat.Seq WS FS Mem Rd Shapes Word FFam Grown
set_option linter.unusedVariables false
set_option linter.unusedSimpArgs false
def smT (t : Tst) : Bool := decide (t.name.size ≤ 100) && decide (t.value.size ≤ 100)
def cntS (r : Sro) : Nat := (r.map (fun x => x.c.length + 1)).sum
def cntL (l : Sel) : Nat := (l.map (fun r => cntS r + 1)).sum
def smL (l : Sel) : Bool := l.all (fun r => r.all (fun x => x.c.all smT))
def fewB (l : Sel) : Bool := smL l && decide (wrap64 (cntL l) ≤ 40)
theorem wrap_one (n : Nat) : wrap64 (wrap64 (n : Int) + 1) = wrap64 ((n + 1 : Nat) : Int) := by unfold wrap64; omega
theorem cntS_succ {r : Sro} {k : Nat} (h : k < r.length) : cntS (r.take (k + 1)) = cntS (r.take k) + r[k].c.length + 1 := by
 unfold cntS
 rw [List.take_succ_eq_append_getElem h, List.map_append, List.sum_append]
 simp
 omega
theorem cntL_succ {l : Sel} {k : Nat} (h : k < l.length) : cntL (l.take (k + 1)) = cntL (l.take k) + cntS l[k] + 1 := by
 unfold cntL
 rw [List.take_succ_eq_append_getElem h, List.map_append, List.sum_append]
 simp
 omega
theorem smL_no {l : Sel} {i k m : Nat} (hi : i < l.length) (hk : k < l[i].length) (hm : m < l[i][k].c.length) (h : smT l[i][k].c[m] = false) : fewB l = false := by
 have : smL l = false := by
  cases hs : smL l with
  | false => rfl
  | true =>
   unfold smL at hs
   rw [List.all_eq_true] at hs
   have h1 := hs _ (List.getElem_mem hi)
   rw [List.all_eq_true] at h1
   have h2 := h1 _ (List.getElem_mem hk)
   rw [List.all_eq_true] at h2
   rw [h2 _ (List.getElem_mem hm)] at h
   cases h
 unfold fewB
 rw [this]
 rfl
set_option maxRecDepth 100000 in
set_option maxHeartbeats 8000000 in
theorem few_calls (w : World) (v : Value) (l : Sel) (h : RdSel w.heap.size w v l) : Calls Tryz.prog 13 #[v] w fun e w' => e = .returned (.bool (fewB l)) ∧ w = w' := by
 obtain ⟨A0, c0, rfl, hl0, hc0, h'⟩ := h.form
 simp only [maxLen] at hc0
 have Hh := Lib.hid h'
 have hno := fun i k m (hi : i < l.length) (hk : k < l[i].length) (hm : m < l[i][k].c.length) hx => smL_no (l := l) hi hk hm hx
 have Hno := Lib.hid hno
 have hz0 : (0 : Int) = wrap64 ((cntL (l.take 0) : Nat) : Int) := by simp [cntL, wrap64]
 have Hz0 := Lib.hid hz0
 clear h h' hno hz0
 go_enter Tryz.func13, Tryz.ntmps13
 go_wp2_with fail
 go_loop [3, 4] (fun u i => ∃ (k : Nat) (x : Int), k ≤ l.length ∧ i = .int .i64 k ∧ u = .int .i64 x ∧ Hid (x = wrap64 ((cntL (l.take k) : Nat) : Int)) ∧ Hid (smL (l.take k) = true)) (fun _ i => l.length - (intOf i).toNat)
 case atStart => exact ⟨0, 0, Nat.zero_le _, rfl, rfl, Hz0, Lib.hid rfl⟩
 case round =>
  obtain ⟨i, x, hi, rfl, rfl, hx, hs⟩ := hrel
  by_cases hil : i < l.length
  ·obtain ⟨bo, oo, Ar, cr, rfl, _, r0, hrow, lr1, lr2⟩ := row_at Hh.out hil
   have hsl : (l.take (i + 1)) = l.take i ++ [l[i]] := List.take_succ_eq_append_getElem hil
   have hcl := cntL_succ hil
   have Hr := Lib.hid hrow; have Hsl := Lib.hid hsl; have Hcl := Lib.hid hcl
   simp only [maxLen] at lr2
   have Hn1 := Lib.hid (fun k m hk hm hx => Hno.out i k m hil hk hm hx)
   clear hrow hsl hcl
   generalize l[i] = r at *
   go_wp2_with fail
   go_loop [3, 5] (fun u i' => ∃ (k : Nat) (y : Int), k ≤ r.length ∧ i' = .int .i64 k ∧ u = .int .i64 y ∧ Hid (y = wrap64 ((cntL (l.take i) + cntS (r.take k) : Nat) : Int)) ∧ Hid ((r.take k).all (fun x => x.c.all smT) = true)) (fun _ i' => r.length - (intOf i').toNat)
   case atStart => exact ⟨0, x, Nat.zero_le _, rfl, rfl, Lib.hid (by rw [hx.out]; simp [cntS]), Lib.hid rfl⟩
   case round =>
    obtain ⟨k, y, hk, rfl, rfl, hy, hs2⟩ := hrel
    by_cases hkl : k < r.length
    ·obtain ⟨bs, os, At, ct, rfl, _, s0, _, htst, lt1, lt2⟩ := step_at Hr.out hkl
     have hsr : (r.take (k + 1)) = r.take k ++ [r[k]] := List.take_succ_eq_append_getElem hkl
     have hcr := cntS_succ hkl
     have Ht := Lib.hid htst; have Hsr := Lib.hid hsr; have Hcr := Lib.hid hcr
     simp only [maxLen] at lt2
     have Hn2 := Lib.hid (fun m hm hx => Hn1.out k m hkl hm hx)
     clear htst hsr hcr
     generalize r[k] = st at *
     go_wp2_with fail
     go_loop [3, 6] (fun u i' => ∃ (m : Nat) (z : Int), m ≤ st.c.length ∧ i' = .int .i64 m ∧ u = .int .i64 z ∧ Hid (z = wrap64 ((cntL (l.take i) + cntS (r.take k) + m : Nat) : Int)) ∧ Hid ((st.c.take m).all smT = true)) (fun _ i' => st.c.length - (intOf i').toNat)
     case atStart => exact ⟨0, y, Nat.zero_le _, rfl, rfl, Lib.hid (by rw [hy.out]; rfl), Lib.hid rfl⟩
     case round =>
      obtain ⟨m, z, hm, rfl, rfl, hz, hs3⟩ := hrel
      by_cases hml : m < st.c.length
      ·obtain ⟨bt, ot, rfl, _, _, t1, t2, m1, m2, _⟩ := test_at Ht.out hml
       have hst : (st.c.take (m + 1)) = st.c.take m ++ [st.c[m]] := List.take_succ_eq_append_getElem hml
       have Hst := Lib.hid hst
       have Hn3 := Lib.hid (fun hx => Hn2.out m hml hx)
       simp only [maxLen] at m1 m2
       clear hst
       generalize st.c[m] = t at *
       by_cases h1 : t.name.size ≤ 100
       ·by_cases h2 : t.value.size ≤ 100
        ·have hx : smT t = true := by unfold smT; rw [decide_eq_true h1, decide_eq_true h2]; rfl
         have Hx := Lib.hid hx
         clear hx
         go_wp2_with fail
         go_round
         case rel => exact ⟨m + 1, _, by omega, by go_num, rfl, Lib.hid (by rw [hz.out]; exact wrap_one _), Lib.hid (by rw [Hst.out, List.all_append, hs3.out]; simp [Hx.out])⟩
         case measure => simp [intOf]; omega
        ·have hx : smT t = false := by unfold smT; rw [decide_eq_false h2]; simp
         have Hx := Lib.hid hx
         clear hx
         go_wp2_with fail
         go_ret
         exact ⟨by rw [Hn3.out Hx.out]; rfl, rfl⟩
       ·have hx : smT t = false := by unfold smT; rw [decide_eq_false h1]; rfl
        have Hx := Lib.hid hx
        clear hx
        go_wp2_with fail
        go_ret
        exact ⟨by rw [Hn3.out Hx.out]; rfl, rfl⟩
      ·obtain rfl : m = st.c.length := by omega
       go_wp2_with fail
       go_round
       case rel => exact ⟨k + 1, _, by omega, by go_num, rfl, Lib.hid (by rw [hz.out, wrap_one, Hcr.out]; congr 2; omega), Lib.hid (by
        have := hs3.out
        rw [List.take_length] at this
        rw [Hsr.out, List.all_append, hs2.out]
        simp [this])⟩
       case measure => simp [intOf]; omega
    ·obtain rfl : k = r.length := by omega
     go_wp2_with fail
     go_round
     case rel => exact ⟨i + 1, _, by omega, by go_num, rfl, Lib.hid (by rw [hy.out, wrap_one, Hcl.out, List.take_length]), Lib.hid (by
      have := hs2.out
      rw [List.take_length] at this
      have h4 := hs.out
      unfold smL at h4 ⊢
      rw [Hsl.out, List.all_append, h4]
      simp [this])⟩
     case measure => simp [intOf]; omega
  ·obtain rfl : i = l.length := by omega
   have hr : fewB l = decide (x ≤ 40) := by
    have h1 := hx.out
    have h2 := hs.out
    rw [List.take_length] at h1 h2
    unfold fewB
    rw [h2, h1, Bool.true_and]
   have Hr := Lib.hid hr
   clear hr hx hs
   go_wp2_with fail
   go_ret
   exact ⟨by rw [Hr.out]; rfl, rfl⟩
end Go.Proofs.YtmbhkkophkccbaaGreat.Fi
end
section
namespace Go.Proofs.YtmbhkkophkccbaaGreat.Shapes
open Go Go.RowKit Go.Deep Rd
open Go.Proofs.YtmbhkkophkccbaaGreat.FS (Av Nd Fo Tst Stp Sro Sel)
set_option linter.unusedVariables false
section
variable {H : Type} {enc : TypeId × Value → H} {P : Program} {w : World} {base : Nat} {spare : Nat → Bool} {held : Bool} {α : Type} {E : Elem α} {Z : α → Prop}
def Few (P : Program) (t : TypeId) (d : DataW H) : Prop := (d.weights P t).all (· ≤ reachBytes) = true
def OpensZ (enc : TypeId × Value → H) (P : Program) (w : World) (base : Nat) (spare : Nat → Bool) (held : Bool) (e : TypeId) (E : Elem α) (Z : α → Prop) : Prop :=
 ∀ (fuel : Nat) (cs : List Value) (x : DataW H × List MemPlace), DataW.trod enc P w base spare held fuel e cs = some x → Few P e x.1 → ∃ a, E w.heap.size w cs a ∧ Z a
theorem Opens.z {e : TypeId} (h : Opens enc P w base spare held e E) : OpensZ enc P w base spare held e E (fun _ => True) := fun fuel cs x hx _ => by
 obtain ⟨a, ha⟩ := h fuel cs x hx
 exact ⟨a, ha, trivial⟩
theorem few_slice {t e : TypeId} {elems spares : List (DataW H)} (ht : P.underlying t = some (.slice e)) (h : Few P t (.slice elems spares)) : elems.length * P.bytesOf e ≤ reachBytes ∧ ∀ d ∈ elems, Few P e d := by
 unfold Few at h
 simp only [DataW.weights, ht, List.all_cons, List.all_append, Bool.and_eq_true, decide_eq_true_eq] at h
 obtain ⟨h1, h2, _⟩ := h
 refine ⟨Nat.le_trans (Nat.mul_le_mul_right _ (Nat.le_add_right _ _)) h1, ?_⟩
 have key : ∀ l : List (DataW H), (DataW.weightsAll P e l).all (· ≤ reachBytes) = true → ∀ d ∈ l, Few P e d := fun l => by
  induction l with
  | nil => intro _ d hd; cases hd
  | cons x l ih =>
   intro hx d hd
   simp only [DataW.weightsAll, List.all_append, Bool.and_eq_true] at hx
   rcases List.mem_cons.1 hd with rfl | hd
   ·exact hx.1
   ·exact ih hx.2 d hd
 exact key _ h2
theorem open_cellsZ {t e : TypeId} {fuel : Nat} {cs : List Value} {x : DataW H × List MemPlace} (ht : P.underlying t = some (.slice e)) (hp : 0 < P.cellsOf e) (hE : OpensZ enc P w base spare held e E Z)
  (h : DataW.trod enc P w base spare held fuel t cs = some x) (hw : Few P t x.1) : ∃ (v : Value) (l : List α), cs = [v] ∧ RdL E (P.cellsOf e) w.heap.size w v l ∧ l.length * P.bytesOf e ≤ reachBytes ∧ ∀ a ∈ l, Z a := by
 rcases Deep.open_slice ht h with ⟨rfl, _⟩ | ⟨a, len, cap, m, n, D, Pl, rfl, hb, hl, hm, hmm, rfl, hx⟩
 ·exact ⟨_, [], rfl, RdL.nil, by simp, fun a ha => by cases ha⟩
 ·have hlm : len ≤ m := by rw [hmm]; split <;> omega
  obtain ⟨hw1, hw2⟩ := few_slice ht hw
  rw [List.length_map, List.length_range] at hw1
  have hwd : ∀ k, k < len → Few P e (D k) := fun k hk => hw2 _ (List.mem_map.2 ⟨k, List.mem_range.2 hk, rfl⟩)
  have key : ∀ k, k ≤ len → ∃ l : List α, l.length = k ∧ (∀ a ∈ l, Z a) ∧ ∀ i (hi : i < l.length), ∃ cs : List Value, cs.length = P.cellsOf e ∧ (∀ j u, cs[j]? = some u → w.cell? (a.add (i * P.cellsOf e + j)) = some u) ∧ E w.heap.size w cs l[i] := by
   intro k
   induction k with
   | zero => exact fun _ => ⟨[], rfl, fun a ha => (by cases ha), fun i hi => absurd hi (by simp)⟩
   | succ k ih =>
    intro hk
    obtain ⟨l, h1, hz, h2⟩ := ih (by omega)
    obtain ⟨cs', h3, h4⟩ := hx k (by omega)
    obtain ⟨y, hy, hzy⟩ := hE _ _ _ h4 (hwd k (by omega))
    obtain ⟨_, hcl, hat⟩ := World.cells?_some h3
    refine ⟨l ++ [y], by simp [h1], fun b hb => ?_, fun i hi => ?_⟩
    ·rw [List.mem_append, List.mem_singleton] at hb
     rcases hb with hb | rfl
     ·exact hz b hb
     ·exact hzy
    ·by_cases hil : i < l.length
     ·obtain ⟨cs, g1, g2, g3⟩ := h2 i hil
      exact ⟨cs, g1, g2, by rw [List.getElem_append_left hil]; exact g3⟩
     ·have : i = k := by simp at hi; omega
      subst this
      refine ⟨cs', hcl, fun j u hj => ?_, by rw [List.getElem_append_right (by omega)]; simp [h1]; exact hy⟩
      have hjl : j < P.cellsOf e := by have := (List.getElem?_eq_some_iff.1 hj).1; omega
      rw [← Deep.add_add, hat j hjl, hj]
  obtain ⟨l, rfl, hz, h2⟩ := key len (Nat.le_refl _)
  refine ⟨_, l, rfl, ⟨_, cap, rfl, hl, hm, fun h0 => ?_⟩, hw1, hz⟩
  obtain ⟨cs', h3, _⟩ := hx 0 (by omega)
  have hblk := World.cells?_block h3 hp
  rw [add_block] at hblk
  obtain ⟨_, hcl, hat⟩ := World.cells?_some h3
  have h0c := hat 0 hp
  have hspot : a.spot = none := by
   have hv : cs'[0]? = some (cs'[0]'(by omega)) := List.getElem?_eq_getElem (by omega)
   rw [hv] at h0c
   simpa [Addr.add] using World.cell?_spot h0c
  obtain ⟨b, o, s⟩ := a
  simp only at hspot
  subst hspot
  refine ⟨b, o, rfl, hblk, fun i hi => ?_⟩
  obtain ⟨cs, g1, g2, g3⟩ := h2 i hi
  refine ⟨cs, g1, fun j u hj => ?_, g3⟩
  have := g2 j u hj
  rwa [Addr.add_lit, ← Nat.add_assoc] at this
theorem opens_sliceZ {t e : TypeId} (sz by_ : Nat) (ht : P.underlying t = some (.slice e)) (hc : P.cellsOf e = sz) (hby : P.bytesOf e = by_) (hp : 0 < sz) (hE : OpensZ enc P w base spare held e E Z) :
  OpensZ enc P w base spare held t (fun B w cs (l : List α) => ∃ v, cs = [v] ∧ RdL E sz B w v l) (fun l => l.length * by_ ≤ reachBytes ∧ ∀ a ∈ l, Z a) := fun fuel cs x h hw => by
 subst hc hby
 obtain ⟨v, l, h1, h2, h3⟩ := open_cellsZ ht hp hE h hw
 exact ⟨l, ⟨v, h1, h2⟩, h3⟩
theorem open_listZ {t e : TypeId} {r : Reach} {b0 : Nat} {v : Value} {d : DataW H} {p : List MemPlace} (sz by_ : Nat) (ht : P.underlying t = some (.slice e)) (hc : P.cellsOf e = sz) (hby : P.bytesOf e = by_) (hp : 0 < sz) (hE : OpensZ enc P w base spare held e E Z)
  (hv : Value.okWide P w r b0 t v) (h : DataW.Trod enc P w base spare held t v d p) (hw : Few P t d) : ∃ l : List α, RdL E sz w.heap.size w v l ∧ l.length * by_ ≤ reachBytes ∧ ∀ a ∈ l, Z a := by
 obtain ⟨A, n, c, rfl⟩ := Go.WideShapes.okWide_slice ht hv
 obtain ⟨fuel, hf⟩ := h
 subst hc hby
 obtain ⟨v', l, h1, h2, h3⟩ := open_cellsZ ht hp hE hf hw
 simp [Value.cells] at h1
 subst h1
 exact ⟨l, h2, h3⟩
theorem opens_test {e : TypeId} {f0 f1 f2 : Field} (hs : P.underlying e = some (.struct #[f0, f1, f2])) (hone : oneCellFields P #[f0, f1, f2] = true) (hC : P.cellsOf e = 3) (h0 : P.underlying f0.type = some (.int .i64)) (h1 : P.underlying f1.type = some .string) (h2 : P.underlying f2.type = some .string) :
  Opens enc P w base spare held e testE := fun fuel cs x h => by
 obtain ⟨xs, n, _, hx, hlc, hlen, hg⟩ := DataW.trod_struct hs h
 rw [hC] at hlc
 match cs, hlc with
 | [c0, c1, c2], _ =>
  obtain ⟨o0, k0⟩ := hone_of hone 0 f0 rfl
  obtain ⟨o1, k1⟩ := hone_of hone 1 f1 rfl
  obtain ⟨o2, k2⟩ := hone_of hone 2 f2 rfl
  match xs, hlen with
  | [y0, y1, y2], _ =>
   have g0 := hg 0 f0 rfl
   have g1 := hg 1 f1 rfl
   have g2 := hg 2 f2 rfl
   simp [o0, k0] at g0
   simp [o1, k1] at g1
   simp [o2, k2] at g2
   obtain ⟨z0, e0, _, m0⟩ := DataW.trod_int h0 g0
   obtain ⟨z1, e1, _, m1⟩ := DataW.trod_string h1 g1
   obtain ⟨z2, e2, _, m2⟩ := DataW.trod_string h2 g2
   simp at e0 e1 e2
   exact ⟨⟨z0, z1, z2⟩, by rw [e0, e1, e2], m1, m2, m0⟩
def ZStp (x : Stp) : Prop := x.c.length * 40 ≤ reachBytes
theorem opens_step {e ea et : TypeId} {f0 f1 : Field} (hs : P.underlying e = some (.struct #[f0, f1])) (hone : oneCellFields P #[f0, f1] = true) (hC : P.cellsOf e = 2) (h0 : P.underlying f0.type = some (.slice et)) (h1 : P.underlying f1.type = some .bool)
  (hct : P.cellsOf et = 3) (hbt : P.bytesOf et = 40) (hot : Opens enc P w base spare held et testE) : OpensZ enc P w base spare held e stepE ZStp := fun fuel cs x h hw => by
 obtain ⟨xs, n, _, hx, hlc, hlen, hg⟩ := DataW.trod_struct hs h
 rw [hC] at hlc
 match cs, hlc with
 | [c0, c1], _ =>
  obtain ⟨o0, k0⟩ := hone_of hone 0 f0 rfl
  obtain ⟨o1, k1⟩ := hone_of hone 1 f1 rfl
  match xs, hlen with
  | [y0, y1], _ =>
   have g0 := hg 0 f0 rfl
   have g1 := hg 1 f1 rfl
   simp [o0, k0] at g0
   simp [o1, k1] at g1
   have hw0 : Few P f0.type y0.1 := by
    unfold Few at hw ⊢
    rw [hx] at hw
    simp only [List.map_cons, List.map_nil, DataW.weights, hs, DataW.weightsEach, List.all_append, Bool.and_eq_true] at hw
    exact hw.1
   obtain ⟨l0, ⟨v0, e0, m0⟩, z0, _⟩ := opens_sliceZ 3 40 h0 hct hbt (by omega) (Opens.z hot) _ _ _ g0 hw0
   obtain ⟨b1, e1, _⟩ := DataW.trod_bool h1 g1
   simp at e0 e1
   exact ⟨⟨l0, b1⟩, ⟨v0, by rw [e0, e1], m0⟩, z0⟩
theorem opens_stepU {e et : TypeId} {f0 f1 : Field} (hs : P.underlying e = some (.struct #[f0, f1])) (hone : oneCellFields P #[f0, f1] = true) (hC : P.cellsOf e = 2) (h0 : P.underlying f0.type = some (.slice et)) (h1 : P.underlying f1.type = some .bool)
  (hct : P.cellsOf et = 3) (hot : Opens enc P w base spare held et testE) : Opens enc P w base spare held e stepE := fun fuel cs x h => by
 obtain ⟨xs, n, _, hx, hlc, hlen, hg⟩ := DataW.trod_struct hs h
 rw [hC] at hlc
 match cs, hlc with
 | [c0, c1], _ =>
  obtain ⟨o0, k0⟩ := hone_of hone 0 f0 rfl
  obtain ⟨o1, k1⟩ := hone_of hone 1 f1 rfl
  match xs, hlen with
  | [y0, y1], _ =>
   have g0 := hg 0 f0 rfl
   have g1 := hg 1 f1 rfl
   simp [o0, k0] at g0
   simp [o1, k1] at g1
   obtain ⟨l0, v0, e0, m0⟩ := opens_slice 3 h0 hct (by omega) hot _ _ _ g0
   obtain ⟨b1, e1, _⟩ := DataW.trod_bool h1 g1
   simp at e0 e1
   exact ⟨⟨l0, b1⟩, v0, by rw [e0, e1], m0⟩
theorem opens_sel_Test {enc : TypeId × Value → H} {w : World} : Opens enc Tryz.prog w base spare held 106 testE :=
 opens_test Tryz.underlying106 (by kernel_rfl) (by kernel_rfl) Tryz.underlying3 Tryz.underlying9 Tryz.underlying9
set_option maxRecDepth 100000 in
theorem opens_sel_Step {enc : TypeId × Value → H} {w : World} : OpensZ enc Tryz.prog w base spare held 54 stepE ZStp :=
 opens_step (ea := 0) Tryz.underlying54 (by kernel_rfl) (by kernel_rfl) Tryz.underlying52 Tryz.underlying4 (by kernel_rfl) (by kernel_rfl) opens_sel_Test
def ZSel (l : Sel) : Prop := l.length * 24 ≤ reachBytes ∧ ∀ r ∈ l, r.length * 32 ≤ reachBytes ∧ ∀ x ∈ r, ZStp x
set_option maxRecDepth 100000 in
theorem opens_row {enc : TypeId × Value → H} {w : World} : OpensZ enc Tryz.prog w base spare held 46 rowE (fun r => r.length * 32 ≤ reachBytes ∧ ∀ x ∈ r, ZStp x) :=
 opens_sliceZ 2 32 Tryz.underlying46 (by kernel_rfl) (by kernel_rfl) (by omega) opens_sel_Step
set_option maxRecDepth 100000 in
theorem open_sel {enc : TypeId × Value → H} {w : World} {r : Reach} {b0 : Nat} {v : Value} {d : DataW H} {p : List MemPlace} (hv : Value.okWide Tryz.prog w r b0 24 v) (h : DataW.Trod enc Tryz.prog w base spare held 24 v d p) (hw : Few Tryz.prog 24 d) :
  ∃ l : Sel, RdSel w.heap.size w v l ∧ ZSel l := by
 obtain ⟨l, h1, h2, h3⟩ := open_listZ 1 24 Tryz.underlying24 (by kernel_rfl) (by kernel_rfl) (by omega) opens_row hv h hw
 exact ⟨l, h1, h2, h3⟩
set_option maxRecDepth 100000 in
theorem open_selU {enc : TypeId × Value → H} {w : World} {r : Reach} {b0 : Nat} {v : Value} {d : DataW H} {p : List MemPlace} (hv : Value.okWide Tryz.prog w r b0 24 v) (h : DataW.Trod enc Tryz.prog w base spare held 24 v d p) : ∃ l : Sel, RdSel w.heap.size w v l :=
 open_list 1 Tryz.underlying24 (by kernel_rfl) (by decide) (opens_slice 2 Tryz.underlying46 (by kernel_rfl) (by omega) (opens_stepU Tryz.underlying54 (by kernel_rfl) (by kernel_rfl) Tryz.underlying52 Tryz.underlying4 (by kernel_rfl) opens_sel_Test)) hv h
end
theorem open_test {H : Type} {P : Program} {enc : TypeId × Value → H} {w : World} {base b0 : Nat} {spare : Nat → Bool} {held : Bool} {r : Reach} {e : TypeId} {fs : Array Field} {v : Value} {d : DataW H} {p : List MemPlace} (hs : P.underlying e = some (.struct fs)) (hE : Opens enc P w base spare held e testE)
  (hv : Value.okWide P w r b0 e v) (h : DataW.Trod enc P w base spare held e v d p) : ∃ t : Tst, v = .agg #[.int .i64 t.kind, .string t.name, .string t.value] ∧ t.name.size ≤ maxLen ∧ t.value.size ≤ maxLen ∧ (Lit.int .i64 t.kind).wf = true := by
 obtain ⟨cs, rfl, hsz⟩ := Go.WideShapes.okWide_struct hs hv
 obtain ⟨fuel, hf⟩ := h
 obtain ⟨o, ho, hk⟩ := hE fuel _ _ hf
 refine ⟨o, ?_, hk⟩
 have hc : cs.toList = [.int .i64 o.kind, .string o.name, .string o.value] := by simpa [Value.cells] using ho
 show Value.agg cs = _
 rw [← Array.toArray_toList (xs := cs), hc]
end Go.Proofs.YtmbhkkophkccbaaGreat.Shapes
end
section
namespace Go.Proofs.YtmbhkkophkccbaaGreat.Fi
open Go Go.RowKit Go.Proofs.YtmbhkkophkccbaaGreat.Seq WS FS Mem Rd Shapes Word FFam
set_option linter.unusedVariables false
set_option linter.unusedSimpArgs false
theorem row_lit1 {w : World} {b : Nat} {va : Value} {a : List Tst} {ca : Bool} {T : TypeId} (h : w.heap[b]? = some (.cells #[va, .bool ca] T (0, 0))) (ha : RdL testE 3 w.heap.size w va a) : RdL stepE 2 w.heap.size w (.slice (some ⟨b, 0, none⟩) 1 1) [{ c := a, child := ca }] := by
 have l1 := lt_heap h
 refine ⟨_, 1, rfl, Nat.le_refl _, by decide, fun h0 => ⟨b, 0, rfl, l1, fun i hi => ?_⟩⟩
 obtain rfl : i = 0 := by simp at hi; exact hi
 refine ⟨[va, .bool ca], rfl, fun j u hj => ?_, va, rfl, ha⟩
 rw [cell_of_row _ _ _ _ _ _ h]
 match j with
 | 0 => simpa using hj
 | 1 => simpa using hj
 | j + 2 => simp at hj
theorem row_lit2 {w : World} {b : Nat} {va vb : Value} {a c : List Tst} {ca cb : Bool} {T : TypeId} (h : w.heap[b]? = some (.cells #[va, .bool ca, vb, .bool cb] T (0, 0))) (ha : RdL testE 3 w.heap.size w va a) (hc : RdL testE 3 w.heap.size w vb c) :
  RdL stepE 2 w.heap.size w (.slice (some ⟨b, 0, none⟩) 2 2) [{ c := a, child := ca }, { c := c, child := cb }] := by
 have l1 := lt_heap h
 refine ⟨_, 2, rfl, Nat.le_refl _, by decide, fun h0 => ⟨b, 0, rfl, l1, fun i hi => ?_⟩⟩
 have hi2 : i < 2 := hi
 match i, hi2 with
 | 0, _ =>
  refine ⟨[va, .bool ca], rfl, fun j u hj => ?_, va, rfl, ha⟩
  rw [cell_of_row _ _ _ _ _ _ h]
  match j with
  | 0 => simpa using hj
  | 1 => simpa using hj
  | j + 2 => simp at hj
 | 1, _ =>
  refine ⟨[vb, .bool cb], rfl, fun j u hj => ?_, vb, rfl, hc⟩
  rw [cell_of_row _ _ _ _ _ _ h]
  match j with
  | 0 => simpa using hj
  | 1 => simpa using hj
  | j + 2 => simp at hj
theorem sel_lit {w : World} {b n : Nat} {A : Option Addr} {r : Sro} {T : TypeId} (h : w.heap[b]? = some (.cells #[.slice A n n] T (0, 0))) (hr : RdL stepE 2 w.heap.size w (.slice A n n) r) : RdSel w.heap.size w (.slice (some ⟨b, 0, none⟩) 1 1) [r] := by
 have l1 := lt_heap h
 refine ⟨_, 1, rfl, Nat.le_refl _, by decide, fun h0 => ⟨b, 0, rfl, l1, fun i hi => ?_⟩⟩
 obtain rfl : i = 0 := by simp at hi; exact hi
 refine ⟨[.slice A n n], rfl, fun j u hj => ?_, _, rfl, hr⟩
 rw [cell_of_row _ _ _ _ _ _ h]
 match j with
 | 0 => simpa using hj
 | j + 1 => simp at hj
theorem lit_one {w w' : World} {va : Value} {a : List Tst} (hw : (w.alloc (.cells #[va, .bool false] 54)).alloc (.cells #[.slice (some ⟨w.heap.size, 0, none⟩) 1 1] 46) = w') (ha : RdL testE 3 w.heap.size w va a) :
  RdSel w'.heap.size w' (.slice (some ⟨w.heap.size + 1, 0, none⟩) 1 1) [[{ c := a }]] ∧ Below w.heap.size w w' ∧ w'.heap.size = w.heap.size + 2 := by
 have hb0 : Below w.heap.size w w' := by rw [← hw]; exact ((Below.refl _ _).alloc (Nat.le_refl _) _).alloc (by simp) _
 have q0 : w'.heap[w.heap.size]? = some (.cells #[va, .bool false] 54 (0, 0)) := by rw [← hw]; exact heap_old (World.alloc_heap_new w _)
 have q1 : w'.heap[w.heap.size + 1]? = some (.cells #[.slice (some ⟨w.heap.size, 0, none⟩) 1 1] 46 (0, 0)) := by rw [← hw]; exact heap_new (by simp)
 exact ⟨sel_lit q1 (row_lit1 q0 ((ha.below testE_keeps hb0 (Nat.le_refl _)).mono testE_keeps hb0.size)), hb0, by rw [← hw]; simp⟩
theorem lit_two {w w' : World} {va vb : Value} {a c : List Tst} {ch : Bool} (hw : (w.alloc (.cells #[va, .bool false, vb, .bool ch] 54)).alloc (.cells #[.slice (some ⟨w.heap.size, 0, none⟩) 2 2] 46) = w') (ha : RdL testE 3 w.heap.size w va a) (hc : RdL testE 3 w.heap.size w vb c) :
  RdSel w'.heap.size w' (.slice (some ⟨w.heap.size + 1, 0, none⟩) 1 1) [[{ c := a }, { c := c, child := ch }]] ∧ Below w.heap.size w w' ∧ w'.heap.size = w.heap.size + 2 := by
 have hb0 : Below w.heap.size w w' := by rw [← hw]; exact ((Below.refl _ _).alloc (Nat.le_refl _) _).alloc (by simp) _
 have q0 : w'.heap[w.heap.size]? = some (.cells #[va, .bool false, vb, .bool ch] 54 (0, 0)) := by rw [← hw]; exact heap_old (World.alloc_heap_new w _)
 have q1 : w'.heap[w.heap.size + 1]? = some (.cells #[.slice (some ⟨w.heap.size, 0, none⟩) 2 2] 46 (0, 0)) := by rw [← hw]; exact heap_new (by simp)
 exact ⟨sel_lit q1 (row_lit2 q0 ((ha.below testE_keeps hb0 (Nat.le_refl _)).mono testE_keeps hb0.size) ((hc.below testE_keeps hb0 (Nat.le_refl _)).mono testE_keeps hb0.size)), hb0, by rw [← hw]; simp⟩
theorem one_test {w : World} {b : Nat} {t : Tst} {T : TypeId} (h : w.heap[b]? = some (.cells #[.int .i64 t.kind, .string t.name, .string t.value] T (0, 0))) (hk : t.name.size ≤ maxLen ∧ t.value.size ≤ maxLen ∧ (Lit.int .i64 t.kind).wf = true) : RdL testE 3 w.heap.size w (.slice (some ⟨b, 0, none⟩) 1 1) [t] := by
 have l1 := lt_heap h
 refine ⟨_, 1, rfl, Nat.le_refl _, by decide, fun h0 => ⟨b, 0, rfl, l1, fun i hi => ?_⟩⟩
 obtain rfl : i = 0 := by simp at hi; exact hi
 refine ⟨[.int .i64 t.kind, .string t.name, .string t.value], rfl, fun j u hj => ?_, rfl, hk.1, hk.2.1, hk.2.2⟩
 rw [cell_of_row _ _ _ _ _ _ h]
 match j with
 | 0 => simpa using hj
 | 1 => simpa using hj
 | 2 => simpa using hj
 | j + 3 => simp at hj
end Go.Proofs.YtmbhkkophkccbaaGreat.Fi
end
section
namespace Go.Proofs.YtmbhkkophkccbaaGreat.Fi
open Go Go.RowKit Go.Proofs.YtmbhkkophkccbaaGreat.Seq WS FS Mem Rd Shapes Word FFam Fn
set_option linter.unusedVariables false
set_option linter.unusedSimpArgs false
def Cells6 (w : World) (b j : Nat) (n : Nd) (va vk : Value) : Prop :=
 w.cell? ⟨b, j, none⟩ = some (.int .i64 n.kind) ∧ w.cell? ⟨b, j + 1, none⟩ = some (.string n.name) ∧ w.cell? ⟨b, j + 2, none⟩ = some (.string n.text) ∧ w.cell? ⟨b, j + 3, none⟩ = some va ∧ w.cell? ⟨b, j + 4, none⟩ = some (.int .i64 n.parent) ∧ w.cell? ⟨b, j + 5, none⟩ = some vk
theorem slice_some {B : Nat} {w : World} {v : Value} {f : Fo} (h : RdF B w v f) (h0 : 0 < f.length) : ∃ b o c, v = .slice (some ⟨b, o, none⟩) f.length c ∧ f.length ≤ c ∧ c ≤ maxLen := by
 obtain ⟨A, c, rfl, h1, h2, h'⟩ := h.form
 obtain ⟨b, o, _, e, _⟩ := h'.at_ h0
 exact ⟨b, o, c, by rw [e], h1, h2⟩
theorem fits_at {w : World} {b o c : Nat} {f : Fo} (h : RdF w.heap.size w (.slice (some ⟨b, o, none⟩) f.length c) f) (hsm : ∀ n ∈ f, Sm n) {k : Nat} (hk : k < f.length) :
  ∃ va vk, (∃ A n c, va = .slice A n c) ∧ (∃ A n c, vk = .slice A n c) ∧ (∀ w', Below w.heap.size w w' → Cells6 w' b (o + k * 6) (at_ f (k : Int)) va vk) ∧
   ∀ w', Below w.heap.size w w' → ∀ vc cs, RdL testE 3 w'.heap.size w' vc cs → SmC cs → Calls Tryz.prog 25 #[ndV (at_ f (k : Int)) va vk, vc] w' (SoPost (fitsC (at_ f (k : Int)) cs) w') := by
 obtain ⟨b2, o2, Aa, ca, Ak, ck, e, hlt, n0, n1, n2, n3, n4, n5, ra, rk, _⟩ := node_at h hk
 injection e with e
 injection e with e1 e2 _
 subst e1 e2
 rw [atN hk]
 refine ⟨_, _, ⟨_, _, _, rfl⟩, ⟨_, _, _, rfl⟩, fun w' hb => ⟨cell_grow hb n0, cell_grow hb n1, cell_grow hb n2, cell_grow hb n3, cell_grow hb n4, cell_grow hb n5⟩, fun w' hb vc cs hc hs => ?_⟩
 exact Fits_calls w' f[k] _ _ vc cs ((ra.below attrE_keeps (w' := w') hb (Nat.le_refl _)).mono attrE_keeps hb.size) hc (hsm _ (List.getElem_mem hk)) hs
end Go.Proofs.YtmbhkkophkccbaaGreat.Fi
end
section
namespace Go.Proofs.YtmbhkkophkccbaaGreat.PlA
open Go Go.RowKit Go.Proofs.YtmbhkkophkccbaaGreat.Seq WS FS Mem Rd Word Shapes FFam
set_option linter.unusedVariables false
set_option linter.unusedSimpArgs false
theorem run_append_none {P : Program} {w : World} (base : Nat) (t ty e : TypeId) (i : TypeInfo) (size c : Nat) (ht : P.underlying t = some (.slice e)) (hi : P.info? e = some i)
  (v : Value) (n : Nat) (xs : List Value) (hown : w.ownsRow base e size v n xs) : (Builtin.append_ #[t, t] ty #[v, .slice none 0 c]).run P w = .ok v w := by
 rcases hown.2 with ⟨rfl, rfl⟩ | ⟨g, cap, cur, rfl, _, _, hnc, _⟩
 ·simp [Builtin.append_, run_underlying ht, sizeOf, typeInfo, hi, Builtin.lenOf, Builtin.firstCells]
 ·simp [Builtin.append_, run_underlying ht, sizeOf, typeInfo, hi, Builtin.lenOf, Builtin.firstCells, hnc, storeCells]
theorem rd_none {α : Type} {E : Elem α} {sz B n c : Nat} {w : World} {l : List α} (h : RdL E sz B w (.slice none n c) l) : l = [] := by
 obtain ⟨A, c', e, _, _, h0⟩ := h
 injection e with e
 subst e
 cases l with
 | nil => rfl
 | cons y r => obtain ⟨b, o, e, _⟩ := h0 (by simp); cases e
theorem pl_any {P : Program} {ops : Array Oper} {rest : List Oper} {o : Oper} {a : Act} {Q : Exit → Act → World → Prop} (W : World) (hgd : o.guard = none) (s x : Operand) (t e : TypeId) (size bytes : Nat) (z : Value) (i0 : TypeInfo)
  (ho : o.op = .call { callee := .builtin .append, args := #[s, x], argTypes := #[t, t] }) (ht : P.underlying t = some (.slice e)) (hi : P.info? e = some i0) (hz0 : i0.zero = some z) (hz1 : i0.size = size) (hz2 : i0.bytes = bytes) (hzs : z.cells.size = size) (hsz : 0 < size)
  (B : Nat) (v : Value) (n : Nat) (xs : List Value) (A : Option Addr) (m c : Nat) (news : List Value) (hs : a.eval s = v) (hown : W.ownsRow B e size v n xs) (hx : a.eval x = .slice A m c) (hA : A = none → m = 0) (hl : news.length = m * size)
  (hnews : ∀ ad, A = some ad → ∀ j u, news[j]? = some u → W.cell? (ad.add j) = some u) (h1 : ∀ u ∈ news, u.oneCell' = true) (h63 : n + m ≤ maxLen) (hby : (n + m) * bytes ≤ 140737488355328) (hB : B ≤ W.heap.size)
  (h : ∀ v' w1, w1.ownsRow B e size v' (n + m) (xs ++ news) → W.grownBy w1 v.ownBlock → (v'.ownBlock = v.ownBlock ∨ v'.ownBlock = some W.heap.size) → wpList P ops Q rest (a.put o.dst v') w1) : wpList P ops Q (o :: rest) a W := by
 cases A with
 | some ad => exact wpList_append_own_at W hgd s x t ho B e i0 z size bytes ht hi hz0 hz1 hz2 hzs hsz v n xs hs hown ad m c news hx hl (hnews ad rfl) h1 h63 hby hB (fun v' w' h2 h3 _ h5 => h v' w' h2 h3 h5)
 | none =>
  have hm := hA rfl
  subst hm
  have hnl : news = [] := List.eq_nil_of_length_eq_zero (by omega)
  subst hnl
  refine wpList_plain hgd fun K hK => ?_
  have hrun := run_append_none (P := P) (w := W) B t o.type e i0 size c ht hi v n xs hown
  unfold Oper.wp
  simp [execOp, ho, resolve, invoke, builtin, hs, hx, hrun, Result.andThen]
  refine hK _ _ (h v W ?_ ?_ (.inl rfl))
  ·show W.ownsRow B e size v (n + 0) (xs ++ [])
   rw [List.append_nil]
   exact hown
  ·exact ⟨rfl, rfl, rfl, Nat.le_refl _, fun _ _ _ => rfl⟩
theorem int_cells {B : Nat} {w : World} {ad : Addr} {c : Nat} {l : List Int} (h : RdL (intE .i64) 1 B w (.slice (some ad) l.length c) l) : ∀ j u, (l.map (Value.int .i64))[j]? = some u → w.cell? (ad.add j) = some u := by
 intro j u hj
 have hlt : j < l.length := by simpa using (List.getElem?_eq_some_iff.1 hj).1
 obtain ⟨b, o, e, _, g0, _⟩ := intE_at h hlt
 injection e with e
 subst e
 rw [List.getElem?_map, List.getElem?_eq_getElem hlt] at hj
 simp only [Option.map_some, Option.some.injEq] at hj
 rw [Addr.add_lit, ← hj]
 exact g0
theorem ints_one (l : List Int) : ∀ u ∈ l.map (Value.int .i64), u.oneCell' = true := by
 intro u hu
 obtain ⟨z, _, rfl⟩ := List.mem_map.1 hu
 rfl
theorem attrs_one (l : List Av) : ∀ u ∈ Its.atCells l, u.oneCell' = true := by
 intro u hu
 unfold Its.atCells at hu
 obtain ⟨a, _, ha⟩ := List.mem_flatMap.1 hu
 simp only [List.mem_cons, List.not_mem_nil, or_false] at ha
 rcases ha with rfl | rfl <;> rfl
end Go.Proofs.YtmbhkkophkccbaaGreat.PlA
end
section
namespace Go.Proofs.YtmbhkkophkccbaaGreat.Fi
open Go Go.RowKit Go.Proofs.YtmbhkkophkccbaaGreat.Seq WS FS Mem Rd Shapes Word FFam Fn
set_option linter.unusedVariables false
set_option linter.unusedSimpArgs false
def tsL (l : List Tst) : List Value := l.flatMap (fun t => [.int .i64 t.kind, .string t.name, .string t.value])
theorem tsL_snoc (l : List Tst) (t : Tst) : tsL (l ++ [t]) = tsL l ++ [.int .i64 t.kind, .string t.name, .string t.value] := by unfold tsL; rw [List.flatMap_append]; simp
theorem tsL_length : ∀ l : List Tst, (tsL l).length = l.length * 3
 | [] => rfl
 | t :: l => by
  have := tsL_length l
  unfold tsL at this ⊢
  rw [List.flatMap_cons, List.length_append, this]
  simp
  omega
theorem tsL_at : ∀ {l : List Tst} {i : Nat} (h : i < l.length), ((tsL l).drop (i * 3)).take 3 = [.int .i64 l[i].kind, .string l[i].name, .string l[i].value]
 | t :: l, 0, _ => rfl
 | t :: l, i + 1, h => by
  have := tsL_at (l := l) (i := i) (by simpa using h)
  unfold tsL at this ⊢
  rw [List.flatMap_cons, show (i + 1) * 3 = i * 3 + 1 + 1 + 1 by omega]
  simpa using this
theorem tsL_one (l : List Tst) : ∀ u ∈ tsL l, u.oneCell' = true := by
 intro u hu
 unfold tsL at hu
 obtain ⟨a, _, ha⟩ := List.mem_flatMap.1 hu
 simp only [List.mem_cons, List.not_mem_nil, or_false] at ha
 rcases ha with rfl | rfl | rfl <;> rfl
theorem ts_cellsL {B : Nat} {w : World} {a : Addr} {c : Nat} {l : List Tst} (h : RdL testE 3 B w (.slice (some a) l.length c) l) : ∀ j u, (tsL l)[j]? = some u → w.cell? (a.add j) = some u := by
 intro j u hj
 have hlt : j < (tsL l).length := (List.getElem?_eq_some_iff.1 hj).1
 rw [tsL_length] at hlt
 have hi : j / 3 < l.length := by omega
 obtain ⟨b, o, cs, e, _, hl, hc, rfl, _⟩ := h.at_ hi
 injection e with e
 subst e
 have h1 := tsL_at hi
 have h2 : ([.int .i64 l[j / 3].kind, .string l[j / 3].name, .string l[j / 3].value] : List Value)[j % 3]? = some u := by
  rw [← h1, List.getElem?_take_of_lt (by omega), List.getElem?_drop, show j / 3 * 3 + j % 3 = j by omega]
  exact hj
 have := hc _ _ h2
 rw [Addr.add_lit]
 rwa [Nat.add_assoc, show j / 3 * 3 + j % 3 = j by omega] at this
theorem ts_sm {B : Nat} {w : World} {v : Value} {l : List Tst} (h : RdL testE 3 B w v l) : ∀ t ∈ l, t.name.size ≤ maxLen ∧ t.value.size ≤ maxLen ∧ (Lit.int .i64 t.kind).wf = true := by
 intro t ht
 obtain ⟨A, c, rfl, _, _, h'⟩ := h.form
 obtain ⟨i, hi, rfl⟩ := List.mem_iff_getElem.1 ht
 obtain ⟨_, _, _, _, _, _, _, hm⟩ := h'.at_ hi
 exact hm.2
theorem ts_own {w : World} {base : Nat} {T : TypeId} {v : Value} {l : List Tst} {n : Nat} (h : w.ownsRow base T 3 v n (tsL l)) (hn : l.length = n) (hm : ∀ t ∈ l, t.name.size ≤ maxLen ∧ t.value.size ≤ maxLen ∧ (Lit.int .i64 t.kind).wf = true) : RdL testE 3 w.heap.size w v l :=
 RdL.of_own h hn (fun g hg => (h.lt g hg).2) (fun i hi => ⟨tsL_at hi, hm _ (List.getElem_mem hi)⟩)
theorem oper_any {P : Program} {o : Oper} {a : Act} {w : World} {K : Act → World → Prop} {Q : Exit → Act → World → Prop} (s x : Operand) (t : TypeId)
  (ho : o.op = .call { callee := .builtin .append, args := #[s, x], argTypes := #[t, t] })
  (base : Nat) (e : TypeId) (i : TypeInfo) (z : Value) (size bytes : Nat) (ht : P.underlying t = some (.slice e)) (hi : P.info? e = some i) (hz : i.zero = some z)
  (hsize : i.size = size) (hby : i.bytes = bytes) (hzs : z.cells.size = size) (hsz : 0 < size)
  (v : Value) (n : Nat) (xs : List Value) (hs : a.eval s = v) (hown : w.ownsRow base e size v n xs)
  (A : Option Addr) (m c : Nat) (news : List Value) (hx : a.eval x = .slice A m c) (hA : A = none → m = 0) (hl : news.length = m * size) (hnews : ∀ ad, A = some ad → ∀ j u, news[j]? = some u → w.cell? (ad.add j) = some u) (h1 : ∀ u ∈ news, u.oneCell' = true)
  (h63 : n + m ≤ maxLen) (hbytes : (n + m) * bytes ≤ 140737488355328) (hbase : base ≤ w.heap.size)
  (h : ∀ v' w', w'.ownsRow base e size v' (n + m) (xs ++ news) → w.grownBy w' v.ownBlock → (v'.ownBlock = v.ownBlock ∨ v'.ownBlock = some w.heap.size) → K (a.put o.dst v') w') :
  Oper.wp P o a w K Q := by
 cases A with
 | some ad =>
  obtain ⟨v', w', hr, h2, h3, h4, h5⟩ := run_append_own_at (P := P) w base t o.type e i z size bytes ht hi hz hsize hby hzs hsz v n xs hown ad m c news hl (hnews ad rfl) h1 h63 hbytes hbase
  unfold Oper.wp execOp
  simp only [ho, resolve, invoke, builtin, Sem.run_bind, Sem.run_pure, Result.andThen_ok, List.map_toArray, List.map_cons, List.map_nil, hs, hx, hr]
  exact h _ _ h2 h3 h5
 | none =>
  have hm := hA rfl
  subst hm
  have hnl : news = [] := List.eq_nil_of_length_eq_zero (by omega)
  subst hnl
  have hrun := PlA.run_append_none (P := P) (w := w) base t o.type e i size c ht hi v n xs hown
  unfold Oper.wp execOp
  simp only [ho, resolve, invoke, builtin, Sem.run_bind, Sem.run_pure, Result.andThen_ok, List.map_toArray, List.map_cons, List.map_nil, hs, hx, hrun]
  refine h v w ?_ ?_ (.inl rfl)
  ·show w.ownsRow base e size v (n + 0) (xs ++ [])
   rw [List.append_nil]
   exact hown
  ·exact ⟨rfl, rfl, rfl, Nat.le_refl _, fun _ _ _ => rfl⟩
theorem grown_belowN {w W w7 : World} {B sz : Nat} {e : TypeId} {v : Value} {n : Nat} {xs : List Value} (h : Below w.heap.size w W) (hg : W.grownBy w7 v.ownBlock) (hown : W.ownsRow B e sz v n xs) (hB : w.heap.size ≤ B) : Below w.heap.size w w7 :=
 h.trans ((Off.grown (Y := fun b => w.heap.size ≤ b) hg (fun r hr => Nat.le_trans hB (hown.lt r hr).1)).toBelow h.size (fun b hb => hb))
theorem smC_few {c : List Tst} (h : fewB [[{ c := c }]] = true) (hl : c.length * 40 ≤ reachBytes) : SmC c ∧ c.length ≤ 40 := by
 unfold fewB smL cntL cntS at h
 simp only [List.all_cons, List.all_nil, Bool.and_true, Bool.and_eq_true, decide_eq_true_eq, List.map_cons, List.map_nil, List.sum_cons, List.sum_nil] at h
 refine ⟨fun t ht => ?_, ?_⟩
 ·have := List.all_eq_true.1 h.1 t ht
  unfold smT at this
  rw [Bool.and_eq_true, decide_eq_true_eq] at this
  omega
 ·have h2 := h.2
  unfold reachBytes at hl
  unfold wrap64 at h2
  omega
theorem if_want {b : Bool} {A B : Prop} (hc : b = true) (h : A) : if b = true then A else B := by rw [if_pos hc]; exact h
theorem info_test : (Tryz.prog.info? 106).map (fun i => (i.zero, i.size, i.bytes)) = some (some (.agg #[.int .i64 0, .string ⟨#[]⟩, .string ⟨#[]⟩]), 3, 40) := by kernel_rfl
end Go.Proofs.YtmbhkkophkccbaaGreat.Fi
end
