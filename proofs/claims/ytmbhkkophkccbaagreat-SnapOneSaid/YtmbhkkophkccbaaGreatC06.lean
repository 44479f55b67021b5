import Derived.Deep.RegionHeld3
import Derived.Test.YtmbhkkophkccbaaGreatC05
import Derived.Test.YtmbhkkophkccbaaGreatC02
import Derived.Test.YtmbhkkophkccbaaGreatC04
import Derived.Test.YtmbhkkophkccbaaGreatC01
import Derived.Test.YtmbhkkophkccbaaGreatC03
section
namespace Go.Proofs.YtmbhkkophkccbaaGreat.Work
open Go Go.RowKit Go.Proofs.YtmbhkkophkccbaaGreat.Seq WS FS Mem Rd Shapes Word FFam OwnF
set_option linter.unusedVariables false
set_option linter.unusedSimpArgs false

theorem ret_i {a b : Int} (h : a = b) : Ending.returned (.int .i64 a) = .returned (.int .i64 b) := by rw [h]
def idxI (l : List Int) (x : Int) : Int := match l.findIdx? (fun y => y == x) with | some i => i | none => -1
theorem idx_hit {l : List Int} {x : Int} {k : Nat} (hk : k < l.length) (hx : l[k] = x) (hn : ∀ j (hj : j < l.length), j < k → l[j] ≠ x) : idxI l x = k := by
 unfold idxI
 have : l.findIdx? (fun y => y == x) = some k := by
  rw [List.findIdx?_eq_some_iff_getElem]
  exact ⟨hk, by simpa using hx, fun j hj => by simpa using hn j (by omega) hj⟩
 rw [this]
theorem idx_none {l : List Int} {x : Int} (hn : ∀ j (hj : j < l.length), l[j] ≠ x) : idxI l x = -1 := by
 unfold idxI
 have : l.findIdx? (fun y => y == x) = none := by
  rw [List.findIdx?_eq_none_iff]
  intro y hy
  obtain ⟨j, hj, rfl⟩ := List.mem_iff_getElem.1 hy
  simpa using hn j hj
 rw [this]
theorem idx_any (l : List Int) (x : Int) : decide (0 ≤ idxI l x) = l.any (fun y => y == x) := by
 unfold idxI
 cases h : l.findIdx? (fun y => y == x) with
 | none =>
  rw [List.findIdx?_eq_none_iff] at h
  rw [decide_eq_false (by decide)]
  symm
  rw [List.any_eq_false]
  intro y hy
  rw [h y hy]; simp
 | some i =>
  rw [List.findIdx?_eq_some_iff_getElem] at h
  obtain ⟨hi, h1, _⟩ := h
  rw [decide_eq_true (by simp)]
  symm
  rw [List.any_eq_true]
  exact ⟨l[i], List.getElem_mem _, h1⟩
theorem Index_calls (w : World) (v : Value) (l : List Int) (h : RdL (intE .i64) 1 w.heap.size w v l) (x : Int) : Calls Tryz.prog 135 #[v, .int .i64 x] w fun e w' => e = .returned (.int .i64 (idxI l x)) ∧ w = w' := by
 obtain ⟨A0, c0, rfl, hl0, hc0, h'⟩ := h.form
 simp only [maxLen] at hc0
 have Hh := Lib.hid h'
 clear h h'
 go_enter Tryz.func135, Tryz.ntmps135
 go_wp2_with fail
 go_loop [8] (fun i => ∃ k : Nat, k ≤ l.length ∧ i = .int .i64 k ∧ Hid (∀ j (hj : j < l.length), j < k → l[j] ≠ x)) (fun i => l.length - (intOf i).toNat)
 case atStart => exact ⟨0, Nat.zero_le _, rfl, Lib.hid (fun j _ h => absurd h (Nat.not_lt_zero _))⟩
 case round =>
  obtain ⟨k, hk, rfl, hn⟩ := hrel
  by_cases hlt : k < l.length
  ·obtain ⟨b, o, rfl, hb, e1, _⟩ := intE_at Hh.out hlt
   by_cases hx : l[k] = x
   ·have hr := idx_hit hlt hx hn.out
    have Hr := Lib.hid hr
    have e2 : (x == l[k]) = true := by rw [hx]; simp
    clear hr hx
    go_wp2_with fail
    go_ret
    exact ⟨ret_i Hr.out.symm, rfl⟩
   ·have e2 : (x == l[k]) = false := by rw [beq_eq_false_iff_ne]; exact fun h => hx h.symm
    have hn2 : ∀ j (hj : j < l.length), j < k + 1 → l[j] ≠ x := fun j hj hjk => by
     by_cases e : j = k
     ·subst e; exact hx
     ·exact hn.out j hj (by omega)
    have Hn2 := Lib.hid hn2
    clear hn2 hx
    go_wp2_with fail
    go_round
    case rel => exact ⟨k + 1, by omega, by go_num, Hn2⟩
    case measure => simp [intOf]; omega
  ·have hr := idx_none (l := l) (x := x) (fun j hj => hn.out j hj (by omega))
   have Hr := Lib.hid hr
   clear hr
   go_wp2_with fail
   go_ret
   exact ⟨ret_i Hr.out.symm, rfl⟩
theorem Contains_calls (w : World) (v : Value) (l : List Int) (h : RdL (intE .i64) 1 w.heap.size w v l) (x : Int) : Calls Tryz.prog 217 #[v, .int .i64 x] w fun e w' => e = .returned (.bool (l.any (fun y => y == x))) ∧ w = w' := by
 have hi := Index_calls w v l h x
 have ha := idx_any l x
 obtain ⟨A0, c0, rfl, _, _, _⟩ := h.form
 rw [← ha]
 have Hi := Lib.hid hi
 clear hi h ha
 go_enter Tryz.func217, Tryz.ntmps217
 go_wp2_with (go_at_call 135; (with_reducible refine (Hi.out).mono ?_); rintro e w5 ⟨rfl, rfl⟩)
 go_ret
 exact ⟨rfl, rfl⟩
section
variable [Avoid] {base wk g c : Nat} {o : Opn} {f : Fo}
theorem Wk.node {w : World} (h : Wk base wk g c o f w) {i : Int} (hi : isNode f i = true) : ∃ va vk, w.cell? ⟨g, i.toNat * 6, none⟩ = some (.int .i64 (at_ f i).kind) ∧ w.cell? ⟨g, i.toNat * 6 + 1, none⟩ = some (.string (at_ f i).name) ∧ w.cell? ⟨g, i.toNat * 6 + 2, none⟩ = some (.string (at_ f i).text) ∧
  w.cell? ⟨g, i.toNat * 6 + 3, none⟩ = some va ∧ w.cell? ⟨g, i.toNat * 6 + 4, none⟩ = some (.int .i64 (at_ f i).parent) ∧ w.cell? ⟨g, i.toNat * 6 + 5, none⟩ = some vk ∧
  RdS attrS 2 (fun b => b ≠ g) w va (at_ f i).attrs ∧ RdS intS 1 (fun b => b ≠ g) w vk (at_ f i).kids := by
 obtain ⟨k, rfl, hk⟩ := node_nat hi
 obtain ⟨cs, va, vk, hcs, hc, r1, r2⟩ := h.own.ne_block hk
 rw [← at_nat hk] at hcs r1 r2
 rw [Int.toNat_natCast]
 exact ⟨va, vk, hc 0 _ (by rw [hcs]; rfl), hc 1 _ (by rw [hcs]; rfl), hc 2 _ (by rw [hcs]; rfl), hc 3 _ (by rw [hcs]; rfl), hc 4 _ (by rw [hcs]; rfl), hc 5 _ (by rw [hcs]; rfl), r1, r2⟩
theorem Wk.free {w : World} (h : Wk base wk g c o f w) (h0 : 0 < f.length) : (∀ j, w.frozen? ⟨g, j, none⟩ = false) ∧ (∀ j, w.frozen? ⟨wk, j, none⟩ = false) ∧ g < w.heap.size ∧ wk < w.heap.size := by
 obtain ⟨g', c', e, _, hlt, hz, _⟩ := h.own.form h0
 injection e with e
 injection e with e
 injection e with e
 subst e
 exact ⟨hz, fun j => free_of h.box j, hlt, lt_heap h.box⟩
theorem is_calls (w : World) (h : Wk base wk g c o f w) (hi : isNode f o.id = true) (v : Value) (l : List Int) (hr : RdL (intE .i64) 1 w.heap.size w v l) :
  Calls Tryz.prog 186 #[.pointer (some ⟨wk, 0, none⟩), v] w (ChkPost (l.any (fun y => y == (at_ f o.id).kind)) w) := by
 have hn := node_calls w h hi
 obtain ⟨va, vk, k0, _, _, _, _, _, _, _⟩ := h.node hi
 have hc := fun n => Contains_calls (w.drewN n) v l (hr.keep (intE_keeps _) (drewN_below (Below.refl _ _) n) (Nat.le_refl _)) (at_ f o.id).kind
 obtain ⟨A0, c0, rfl, _, _, _⟩ := hr.form
 have Hn := Lib.hid hn; have Hc := Lib.hid hc
 clear hn hc hr h hi
 generalize (at_ f o.id).kind = kd at *
 go_enter Tryz.func186, Tryz.ntmps186
 go_wp2_with (first | (go_at_call 173; (with_reducible refine (Hn.out).mono ?_); rintro e w5 ⟨rfl, n5, rfl⟩) | (go_at_call 217; (with_reducible refine (Hc.out _).mono ?_); rintro e w6 ⟨rfl, rfl⟩))
 go_ret
 exact ⟨rfl, drewN_below (Below.refl _ _) _⟩
end
theorem lit_ints (w : World) (l : List Int) (hl : l.length ≤ 100) (hw : ∀ x ∈ l, (Lit.int .i64 x).wf = true) : RdL (intE .i64) 1 (w.alloc (.cells (l.map (Value.int .i64)).toArray 3)).heap.size (w.alloc (.cells (l.map (Value.int .i64)).toArray 3)) (.slice (some ⟨w.heap.size, 0, none⟩) l.length l.length) l := by
 refine ⟨_, _, rfl, Nat.le_refl _, by simp only [maxLen]; omega, fun h0 => ⟨w.heap.size, 0, rfl, by simp, fun i hi => ⟨[.int .i64 l[i]], rfl, fun j u hj => ?_, rfl, hw _ (List.getElem_mem _)⟩⟩⟩
 have hj0 : j = 0 := by have := (List.getElem?_eq_some_iff.1 hj).1; simp at this; omega
 subst hj0
 simp at hj
 subst hj
 rw [cell_of_row _ _ _ _ _ _ (World.alloc_heap_new _ _)]
 simp [hi]
section
variable [Avoid] {base wk g c : Nat} {o : Opn} {f : Fo}
theorem element_chk (hi : isNode f o.id = true) : Chk 177 base wk g c o f (elemB f o) := by
 intro w h
 have hs := is_calls (w.alloc (.cells #[.int .i64 1] 3)) (h.below ((Below.refl _ _).alloc (Nat.le_refl _) _)) hi _ [1] (lit_ints w [1] (by decide) (by decide))
 have e : [(1 : Int)].any (fun y => y == (at_ f o.id).kind) = elemB f o := by
  unfold elemB
  rw [Bool.eq_iff_iff]; simp; exact ⟨fun h => h.symm, fun h => h.symm⟩
 rw [e] at hs
 simp only [List.length_cons, List.length_nil, Nat.zero_add, Nat.reduceAdd] at hs
 have Hs := Lib.hid hs
 clear hs h hi e
 go_enter Tryz.func177, Tryz.ntmps177
 go_wp2_with (go_at_call 186; (with_reducible refine (Hs.out).mono ?_); rintro e w5 ⟨rfl, hb5⟩; have Hb5 := Lib.hid hb5; clear hb5)
 go_ret
 exact ⟨rfl, bthen ((Below.refl _ _).alloc (Nat.le_refl _) _) Hb5.out⟩
theorem texts_chk (hi : isNode f o.id = true) : Chk 185 base wk g c o f ((at_ f o.id).kind == 2 || (at_ f o.id).kind == 3) := by
 intro w h
 have hs := is_calls (w.alloc (.cells #[.int .i64 2, .int .i64 3] 3)) (h.below ((Below.refl _ _).alloc (Nat.le_refl _) _)) hi _ [2, 3] (lit_ints w [2, 3] (by decide) (by decide))
 have e : [(2 : Int), 3].any (fun y => y == (at_ f o.id).kind) = ((at_ f o.id).kind == 2 || (at_ f o.id).kind == 3) := by
  rw [Bool.eq_iff_iff]; simp; constructor
  ·rintro (h | h)
   ·exact .inl h.symm
   ·exact .inr h.symm
  ·rintro (h | h)
   ·exact .inl h.symm
   ·exact .inr h.symm
 rw [e] at hs
 generalize ((at_ f o.id).kind == 2 || (at_ f o.id).kind == 3) = bb at *
 simp only [List.length_cons, List.length_nil, Nat.zero_add, Nat.reduceAdd] at hs
 have Hs := Lib.hid hs
 clear hs h hi e
 go_enter Tryz.func185, Tryz.ntmps185
 go_wp2_with (go_at_call 186; (with_reducible refine (Hs.out).mono ?_); rintro e w5 ⟨rfl, hb5⟩; have Hb5 := Lib.hid hb5; clear hb5)
 go_ret
 exact ⟨rfl, bthen ((Below.refl _ _).alloc (Nat.le_refl _) _) Hb5.out⟩
theorem parent_chk (hi : isNode f o.id = true) : Chk 176 base wk g c o f ((at_ f o.id).parent != -1) := by
 intro w h
 have hn := node_calls w h hi
 obtain ⟨va, vk, _, _, _, _, k4, _, _, _⟩ := h.node hi
 have Hn := Lib.hid hn
 clear hn h hi
 generalize (at_ f o.id).parent = pr at *
 go_enter Tryz.func176, Tryz.ntmps176
 go_wp2_with (go_at_call 173; (with_reducible refine (Hn.out).mono ?_); rintro e w5 ⟨rfl, n5, rfl⟩)
 go_ret
 exact ⟨rfl, drewN_below (Below.refl _ _) _⟩
end
end Go.Proofs.YtmbhkkophkccbaaGreat.Work
end
section
namespace Go.Proofs.YtmbhkkophkccbaaGreat.Work
open Go Go.RowKit Go.Proofs.YtmbhkkophkccbaaGreat.Seq WS FS Mem Rd Shapes Word FFam OwnF
set_option linter.unusedVariables false
set_option linter.unusedSimpArgs false

section
variable [Avoid] {base wk g c : Nat} {o : Opn} {f : Fo}
end
theorem may_kids {f : Fo} (hm : mayB f = true) : ∀ n ∈ f, n.kids.length ≤ 60 := by
 intro n hn
 obtain ⟨i, hi, rfl⟩ := List.mem_iff_getElem.1 hn
 have hf := may_family hm
 have hnode : isNode f (i : Int) = true := (node_iff _ _).2 ⟨by omega, by omega⟩
 have h1 := kids_nodup hf hnode
 have h2 := nodup_len f.length h1 (fun x hx => (node_iff _ _).1 (fam_kids hf hnode hx).1)
 rw [at_nat hi] at h2
 exact Nat.le_trans h2 (may_len hm).2
section
variable [Avoid] {base wk g c : Nat} {o : Opn} {f : Fo}
theorem cycle_chk (hm : mayB f = true) : Chk 168 base wk g c o f (!belowB f o.id o.to) := by
 intro w h
 obtain ⟨c0, c1, c2, c3, c4, c5, c6⟩ := h.cells
 have hb : ∀ n, Calls Tryz.prog 169 #[.slice (some ⟨g, 0, none⟩) f.length c, .int .i64 o.id, .int .i64 o.to] (w.drewN n) fun e w' => e = .returned (.bool (belowB f o.id o.to)) ∧ Below w.heap.size w w' := fun n =>
  (FBelow.Below_calls (w.drewN n) _ f o.id o.to (h.below (drewN_below (Below.refl _ _) n)).own.rd (fun x hx => Nat.le_trans (may_kids hm x hx) (by decide))).mono (fun e w' hh => ⟨hh.1, (drewN_below (Below.refl _ w) n).trans hh.2⟩)
 have hb1 : Calls Tryz.prog 169 #[.slice (some ⟨g, 0, none⟩) f.length c, .int .i64 o.id, .int .i64 o.to] w fun e w' => e = .returned (.bool (belowB f o.id o.to)) ∧ Below w.heap.size w w' :=
  FBelow.Below_calls w _ f o.id o.to h.own.rd (fun x hx => Nat.le_trans (may_kids hm x hx) (by decide))
 have hl := h.big
 have hb2 : ∀ W, (W = w ∨ W = w.drew) → Calls Tryz.prog 169 #[.slice (some ⟨g, 0, none⟩) f.length c, .int .i64 o.id, .int .i64 o.to] W fun e w' => e = .returned (.bool (belowB f o.id o.to)) ∧ Below w.heap.size w w' := by
  rintro W (rfl | rfl)
  ·exact hb1
  ·exact (FBelow.Below_calls w.drew _ f o.id o.to (h.below (Below.refl _ _).drew).own.rd (fun x hx => Nat.le_trans (may_kids hm x hx) (by decide))).mono (fun e w' hh => ⟨hh.1, (Below.refl _ w).drew.trans hh.2⟩)
 generalize belowB f o.id o.to = bb at *
 have Hb := Lib.hid hb2
 clear hb hb1 hb2 h hm
 go_enter Tryz.func168, Tryz.ntmps168
 go_wp2_with fail
 go_region_held3 (fun w' => w'.cell? ⟨wk, 0, none⟩ = some (.slice (some ⟨g, 0, none⟩) f.length c) ∧ w'.cell? ⟨wk, 2, none⟩ = some (.int .i64 o.id) ∧ w'.cell? ⟨wk, 3, none⟩ = some (.int .i64 o.to))
  (first | exact ⟨c0, c2, c3⟩ | exact ⟨d0, d2, d3⟩ | go_keep)
  (first | (go_at_call 169; (first | (with_reducible refine (Hb.out _ (.inl rfl)).mono ?_) | (with_reducible refine (Hb.out _ (.inr rfl)).mono ?_)); rintro e w5 ⟨rfl, hb5⟩; have d0 := cell_grow hb5 c0; have d2 := cell_grow hb5 c2; have d3 := cell_grow hb5 c3; have Hb5 := Lib.hid hb5; clear hb5))
 all_goals go_wp2_with fail
 all_goals
  go_ret
  exact ⟨rfl, Hb5.out⟩
theorem fits_chk (hi : isNode f o.id = true) (ht : isNode f o.to = true) : Chk 170 base wk g c o f (fitsB f o) := by
 intro w h
 obtain ⟨c0, c1, c2, c3, c4, c5, c6⟩ := h.cells
 have hl := h.big
 obtain ⟨va, vk, _, _, _, _, _, k5, _, rk⟩ := h.node ht
 obtain ⟨Ak, ck, rfl, hck, hcm⟩ := rk.form
 simp only [maxLen] at hcm
 obtain ⟨t, hto, htl⟩ := node_nat ht
 obtain ⟨d, hid, hdl⟩ := node_nat hi
 have hbit : ∀ pr : Int, (at_ f o.id).parent = pr → (pr = o.to → fitsB f o = decide (0 ≤ o.at_ ∧ o.at_ ≤ ((at_ f o.to).kids.length : Int) - 1)) ∧ (pr ≠ o.to → fitsB f o = decide (0 ≤ o.at_ ∧ o.at_ ≤ ((at_ f o.to).kids.length : Int))) := by
  intro pr hp
  unfold fitsB
  rw [hp]
  exact ⟨fun e => by rw [if_pos e], fun e => by rw [if_neg e, Int.sub_zero]⟩
 have hnode := fun w' (hw' : Wk base wk g c o f w') => node_calls w' hw' hi
 have hk4 := fun w' (hw' : Wk base wk g c o f w') => (hw'.node hi)
 have H := Lib.hid h
 obtain ⟨pr, hpr⟩ : ∃ pr, (at_ f o.id).parent = pr := ⟨_, rfl⟩
 have hbits := hbit pr hpr
 rw [hpr] at hk4
 rw [hto] at c3 k5 hbits
 rw [hid] at hnode hk4 c2
 simp only [Int.toNat_natCast] at k5 hk4
 rw [hto] at hck
 obtain ⟨L, hL⟩ : ∃ L, (at_ f (t : Int)).kids.length = L := ⟨_, rfl⟩
 rw [hL] at k5
 rw [hL] at hbits hck
 have htn : (t : Int) < f.length := by omega
 have hdn : (d : Int) < f.length := by omega
 obtain ⟨bb, hbb⟩ : ∃ bb, fitsB f o = bb := ⟨_, rfl⟩
 rw [hbb] at hbits ⊢
 have Hbits := Lib.hid hbits; have Hnode := Lib.hid hnode; have Hk4 := Lib.hid hk4; have Hto := Lib.hid hto; have Hid2 := Lib.hid hid
 clear hbit hbits hnode hk4 h hi ht rk hto hid hpr hbb hL
 go_enter Tryz.func170, Tryz.ntmps170
 go_wp2_with fail
 go_quiet (fail)
 go_wp2_with fail
 obtain ⟨w1, hw1⟩ : ∃ w1, w.drewN nq = w1 := ⟨_, rfl⟩
 have h1 : Wk base wk g c o f w1 := by rw [← hw1]; exact H.out.below (drewN_below (Below.refl _ _) _)
 have hb1 : Below w.heap.size w w1 := by rw [← hw1]; exact drewN_below (Below.refl _ _) _
 rw [hw1]
 obtain ⟨_, _, _, _, _, _, q4, _, _, _⟩ := Hk4.out w1 h1
 obtain ⟨p0, p1, p2, p3, p4, p5, p6⟩ := h1.cells
 rw [Hto.out] at p3
 have hn2 := fun n => Hnode.out (w1.drewN n) (h1.below (drewN_below (Below.refl _ _) n))
 have Hn2 := Lib.hid hn2; have Hb1 := Lib.hid hb1
 clear hn2 hb1 h1 hw1 c0 c1 c2 c3 c4 c5 c6 k5 H
 go_quiet ((go_at_call 173; exact Calls.quiet_of (Hn2.out _)))
 go_wp2_with fail
 all_goals
  go_ret
  refine ⟨ret_bool ?_, Hb1.out.trans (drewN_below (Below.refl _ _) _ |>.mono Hb1.out.size)⟩
  have hbb := Hbits.out
  by_cases e : pr = (t : Int)
  ·rw [hbb.1 e, Bool.eq_iff_iff]
   simp
   first | omega | (simp_all; done) | (simp_all; omega) | trace_state
  ·rw [hbb.2 e, Bool.eq_iff_iff]
   simp
   first | omega | (simp_all; done) | (simp_all; omega) | trace_state
end
end Go.Proofs.YtmbhkkophkccbaaGreat.Work
end
section
namespace Go.Proofs.YtmbhkkophkccbaaGreat.Work
open Go Go.RowKit Go.Proofs.YtmbhkkophkccbaaGreat.Seq WS FS Mem Rd Shapes Word FFam OwnF
set_option linter.unusedVariables false
set_option linter.unusedSimpArgs false

def idxP {α : Type} (l : List α) (p : α → Bool) : Int := match l.findIdx? p with | some i => i | none => -1
theorem idxP_hit {α : Type} {l : List α} {p : α → Bool} {k : Nat} (hk : k < l.length) (hx : p l[k] = true) (hn : ∀ j (hj : j < l.length), j < k → p l[j] = false) : idxP l p = k := by
 unfold idxP
 have : l.findIdx? p = some k := by
  rw [List.findIdx?_eq_some_iff_getElem]
  exact ⟨hk, hx, fun j hj => by simpa using hn j (by omega) hj⟩
 rw [this]
theorem idxP_none {α : Type} {l : List α} {p : α → Bool} (hn : ∀ j (hj : j < l.length), p l[j] = false) : idxP l p = -1 := by
 unfold idxP
 have : l.findIdx? p = none := by
  rw [List.findIdx?_eq_none_iff]
  intro y hy
  obtain ⟨j, hj, rfl⟩ := List.mem_iff_getElem.1 hy
  exact hn j hj
 rw [this]
theorem idxP_any {α : Type} (l : List α) (p : α → Bool) : decide (0 ≤ idxP l p) = l.any p := by
 unfold idxP
 cases h : l.findIdx? p with
 | none =>
  rw [List.findIdx?_eq_none_iff] at h
  rw [decide_eq_false (by decide)]
  symm
  rw [List.any_eq_false]
  intro y hy
  rw [h y hy]; simp
 | some i =>
  rw [List.findIdx?_eq_some_iff_getElem] at h
  obtain ⟨hi, h1, _⟩ := h
  rw [decide_eq_true (by simp)]
  symm
  rw [List.any_eq_true]
  exact ⟨l[i], List.getElem_mem _, h1⟩
theorem IndexFuncI_calls (w : World) (v : Value) (l : List Int) (h : RdL (intE .i64) 1 w.heap.size w v l) (p : Int → Bool) (bx : Value)
  (hp : ∀ j (hj : j < l.length), Calls Tryz.prog 211 #[.int .i64 l[j], bx] w fun e w' => e = .returned (.bool (p l[j])) ∧ w = w') :
  Calls Tryz.prog 47 #[v, .func (.func 211) #[] #[bx]] w fun e w' => e = .returned (.int .i64 (idxP l p)) ∧ w = w' := by
 obtain ⟨A0, c0, rfl, hl0, hc0, h'⟩ := h.form
 simp only [maxLen] at hc0
 have Hh := Lib.hid h'; have Hp := Lib.hid hp
 clear h h' hp
 go_enter Tryz.func47, Tryz.ntmps47
 go_wp2_with fail
 go_loop [8] (fun i => ∃ k : Nat, k ≤ l.length ∧ i = .int .i64 k ∧ Hid (∀ j (hj : j < l.length), j < k → p l[j] = false)) (fun i => l.length - (intOf i).toNat)
 case atStart => exact ⟨0, Nat.zero_le _, rfl, Lib.hid (fun j _ h => absurd h (Nat.not_lt_zero _))⟩
 case round =>
  obtain ⟨k, hk, rfl, hn⟩ := hrel
  by_cases hlt : k < l.length
  ·obtain ⟨b, o, rfl, hb, e1, _⟩ := intE_at Hh.out hlt
   have hc := Hp.out k hlt
   cases hx : p l[k] with
   | true =>
    rw [hx] at hc
    have hr := idxP_hit hlt hx hn.out
    have Hr := Lib.hid hr; have Hc := Lib.hid hc
    clear hr hx hc
    go_wp2_with (go_at_call 211; (with_reducible refine (Hc.out).mono ?_); rintro e w5 ⟨rfl, rfl⟩)
    go_ret
    exact ⟨ret_i Hr.out.symm, rfl⟩
   | false =>
    rw [hx] at hc
    have hn2 : ∀ j (hj : j < l.length), j < k + 1 → p l[j] = false := fun j hj hjk => by
     by_cases e : j = k
     ·subst e; exact hx
     ·exact hn.out j hj (by omega)
    have Hn2 := Lib.hid hn2; have Hc := Lib.hid hc
    clear hn2 hx hc
    go_wp2_with (go_at_call 211; (with_reducible refine (Hc.out).mono ?_); rintro e w5 ⟨rfl, rfl⟩)
    go_round
    case rel => exact ⟨k + 1, by omega, by go_num, Hn2⟩
    case measure => simp [intOf]; omega
  ·have hr := idxP_none (l := l) (p := p) (fun j hj => hn.out j hj (by omega))
   have Hr := Lib.hid hr
   clear hr
   go_wp2_with fail
   go_ret
   exact ⟨ret_i Hr.out.symm, rfl⟩
theorem ContainsFunc_calls (w : World) (v : Value) (l : List Int) (h : RdL (intE .i64) 1 w.heap.size w v l) (p : Int → Bool) (bx : Value)
  (hp : ∀ j (hj : j < l.length), Calls Tryz.prog 211 #[.int .i64 l[j], bx] w fun e w' => e = .returned (.bool (p l[j])) ∧ w = w') :
  Calls Tryz.prog 210 #[v, .func (.func 211) #[] #[bx]] w fun e w' => e = .returned (.bool (l.any p)) ∧ w = w' := by
 have hi := IndexFuncI_calls w v l h p bx hp
 have ha := idxP_any l p
 obtain ⟨A0, c0, rfl, _, _, _⟩ := h.form
 rw [← ha]
 have Hi := Lib.hid hi
 clear hi h ha hp
 go_enter Tryz.func210, Tryz.ntmps210
 go_wp2_with (go_at_call 47; (with_reducible refine (Hi.out).mono ?_); rintro e w5 ⟨rfl, rfl⟩)
 go_ret
 exact ⟨rfl, rfl⟩
section
variable [Avoid] {base wk g c : Nat} {o : Opn} {f : Fo}
theorem lies1_calls (w : World) (h : Wk base wk g c o f w) (bx : Nat) (hb : w.cell? ⟨bx, 0, none⟩ = some (.pointer (some ⟨wk, 0, none⟩))) (k : Int) (hk : isNode f k = true) :
  Calls Tryz.prog 211 #[.int .i64 k, .pointer (some ⟨bx, 0, none⟩)] w fun e w' => e = .returned (.bool (k != o.id && (at_ f k).kind == 1)) ∧ w = w' := by
 obtain ⟨c0, c1, c2, c3, c4, c5, c6⟩ := h.cells
 have hl := h.big
 obtain ⟨va, vk, k0, _, _, _, _, _, _, _⟩ := h.node hk
 obtain ⟨j, rfl, hj⟩ := node_nat hk
 have hjn : (j : Int) < f.length := by omega
 rw [Int.toNat_natCast] at k0
 clear h hk
 generalize (at_ f (j : Int)).kind = kd at *
 by_cases he : (j : Int) = o.id
 ·have e1 : ((j : Int) != o.id) = false := by rw [he]; simp
  have e2 : ((j : Int) == o.id) = true := by rw [he]; simp
  rw [e1, Bool.false_and]
  clear he
  go_enter Tryz.func211, Tryz.ntmps211
  go_wp2_with fail
  go_ret
  exact ⟨rfl, rfl⟩
 ·have e1 : ((j : Int) != o.id) = true := by rw [bne_iff_ne]; exact he
  have e2 : ((j : Int) == o.id) = false := by rw [beq_eq_false_iff_ne]; exact he
  rw [e1, Bool.true_and]
  clear he
  go_enter Tryz.func211, Tryz.ntmps211
  go_wp2_with fail
  go_ret
  exact ⟨rfl, rfl⟩
end
end Go.Proofs.YtmbhkkophkccbaaGreat.Work
end
section
namespace Go.Proofs.YtmbhkkophkccbaaGreat.Fn
open Go Go.RowKit Go.Proofs.YtmbhkkophkccbaaGreat.Seq WS FS Mem Rd Shapes Word FFam Work
set_option linter.unusedVariables false
set_option linter.unusedSimpArgs false
theorem any_iff {α : Type} {l : List α} {p : α → Bool} : decide (0 ≤ idxP l p) = l.any p := by
 cases h : l.any p with
 | true =>
  rw [List.any_eq_true] at h
  by_cases h0 : 0 ≤ idxP l p
  ·exact decide_eq_true h0
  ·exfalso
   unfold idxP at h0
   cases hf : l.findIdx? p with
   | none =>
    rw [List.findIdx?_eq_none_iff] at hf
    obtain ⟨a, ha, hp⟩ := h
    rw [hf a ha] at hp
    cases hp
   | some j => rw [hf] at h0; exact absurd (Int.natCast_nonneg j) h0
 | false =>
  apply decide_eq_false
  rw [List.any_eq_false] at h
  unfold idxP
  rw [List.findIdx?_eq_none_iff.2 (fun a ha => by simpa using h a ha)]
  show ¬ (0 : Int) ≤ -1
  decide
theorem IndexAttr_calls (w : World) (v : Value) (l : List Av) (h : RdL attrE 2 w.heap.size w v l) (p : Av → Bool) (bx : Value)
  (hp : ∀ w', Below w.heap.size w w' → ∀ i (hi : i < l.length), Calls Tryz.prog 191 #[.agg #[.string l[i].name, .string l[i].value], bx] w' fun e w'' => e = .returned (.bool (p l[i])) ∧ Below w'.heap.size w' w'') :
  Calls Tryz.prog 138 #[v, .func (.func 191) #[] #[bx]] w fun e w' => e = .returned (.int .i64 (idxP l p)) ∧ Below w.heap.size w w' := by
 have HR := Lib.hid (fun w' hb => h.below attrE_keeps (w' := w') hb (Nat.le_refl _))
 obtain ⟨A0, c0, rfl, hl0, hc0, _⟩ := h.form
 simp only [maxLen] at hc0
 have Hp := Lib.hid hp
 clear h hp
 go_enter Tryz.func138, Tryz.ntmps138
 go_wp2_with fail
 go_loopw [8] (fun i wr => ∃ k : Nat, k ≤ l.length ∧ i = .int .i64 k ∧ Below w.heap.size w wr ∧ Hid (∀ j (hj : j < l.length), j < k → p l[j] = false)) (fun i _ => l.length - (intOf i).toNat)
 case atStart => exact ⟨0, Nat.zero_le _, rfl, Below.refl _ _, Lib.hid (fun j _ h => absurd h (Nat.not_lt_zero _))⟩
 case round =>
  obtain ⟨k, hk, rfl, hb, hn⟩ := hrel
  by_cases hlt : k < l.length
  ·obtain ⟨b, o, rfl, hbl, g0, g1, m0, m1⟩ := FAttr.attr_at (HR.out _ hb) hlt
   have hbs := hb.size
   have hc := Hp.out wr hb k hlt
   have Hb := Lib.hid hb
   cases hx : p l[k] with
   | true =>
    rw [hx] at hc
    have hr := idxP_hit hlt hx hn.out
    have Hr := Lib.hid hr; have Hc := Lib.hid hc
    clear hr hx hc hb m0 m1
    generalize l[k] = a at *
    go_wp2_with (go_at_call 191; (with_reducible refine (Hc.out).mono ?_); rintro e w5 ⟨rfl, hb5⟩; have Hb5 := Lib.hid hb5; clear hb5)
    go_ret
    exact ⟨ret_i Hr.out.symm, bthen Hb.out Hb5.out⟩
   | false =>
    rw [hx] at hc
    have hn2 : ∀ j (hj : j < l.length), j < k + 1 → p l[j] = false := fun j hj hjk => by
     by_cases e : j = k
     ·subst e; exact hx
     ·exact hn.out j hj (by omega)
    have Hn2 := Lib.hid hn2; have Hc := Lib.hid hc
    clear hn2 hx hc hb m0 m1
    generalize l[k] = a at *
    go_wp2_with (go_at_call 191; (with_reducible refine (Hc.out).mono ?_); rintro e w5 ⟨rfl, hb5⟩; have Hb5 := Lib.hid hb5; clear hb5)
    go_roundw
    case rel => exact ⟨k + 1, by omega, by go_num, bthen Hb.out Hb5.out, Hn2⟩
    case measure => simp [intOf]; omega
  ·have hr := idxP_none (l := l) (p := p) (fun j hj => hn.out j hj (by omega))
   have Hr := Lib.hid hr; have Hb := Lib.hid hb
   clear hr hb
   go_wp2_with fail
   go_ret
   exact ⟨ret_i Hr.out.symm, Hb.out⟩
theorem IndexTest_calls (w : World) (v : Value) (l : List Tst) (h : RdL testE 3 w.heap.size w v l) (p : Tst → Bool) (bx : Value)
  (hp : ∀ w', Below w.heap.size w w' → ∀ i (hi : i < l.length), (l[i].name.size ≤ maxLen ∧ l[i].value.size ≤ maxLen ∧ (Lit.int .i64 l[i].kind).wf = true) → Calls Tryz.prog 56 #[.agg #[.int .i64 l[i].kind, .string l[i].name, .string l[i].value], bx] w' fun e w'' => e = .returned (.bool (p l[i])) ∧ Below w'.heap.size w' w'') :
  Calls Tryz.prog 118 #[v, .func (.func 56) #[] #[bx]] w fun e w' => e = .returned (.int .i64 (idxP l p)) ∧ Below w.heap.size w w' := by
 have HR := Lib.hid (fun w' hb => h.below testE_keeps (w' := w') hb (Nat.le_refl _))
 obtain ⟨A0, c0, rfl, hl0, hc0, _⟩ := h.form
 simp only [maxLen] at hc0
 have Hp := Lib.hid hp
 clear h hp
 go_enter Tryz.func118, Tryz.ntmps118
 go_wp2_with fail
 go_loopw [8] (fun i wr => ∃ k : Nat, k ≤ l.length ∧ i = .int .i64 k ∧ Below w.heap.size w wr ∧ Hid (∀ j (hj : j < l.length), j < k → p l[j] = false)) (fun i _ => l.length - (intOf i).toNat)
 case atStart => exact ⟨0, Nat.zero_le _, rfl, Below.refl _ _, Lib.hid (fun j _ h => absurd h (Nat.not_lt_zero _))⟩
 case round =>
  obtain ⟨k, hk, rfl, hb, hn⟩ := hrel
  by_cases hlt : k < l.length
  ·obtain ⟨b, o, rfl, hbl, g0, g1, g2, m0, m1, m2⟩ := test_at (HR.out _ hb) hlt
   have hbs := hb.size
   have hc := Hp.out wr hb k hlt ⟨m0, m1, m2⟩
   have Hb := Lib.hid hb
   cases hx : p l[k] with
   | true =>
    rw [hx] at hc
    have hr := idxP_hit hlt hx hn.out
    have Hr := Lib.hid hr; have Hc := Lib.hid hc
    clear hr hx hc hb m0 m1 m2
    generalize l[k] = a at *
    go_wp2_with (go_at_call 56; (with_reducible refine (Hc.out).mono ?_); rintro e w5 ⟨rfl, hb5⟩; have Hb5 := Lib.hid hb5; clear hb5)
    go_ret
    exact ⟨ret_i Hr.out.symm, bthen Hb.out Hb5.out⟩
   | false =>
    rw [hx] at hc
    have hn2 : ∀ j (hj : j < l.length), j < k + 1 → p l[j] = false := fun j hj hjk => by
     by_cases e : j = k
     ·subst e; exact hx
     ·exact hn.out j hj (by omega)
    have Hn2 := Lib.hid hn2; have Hc := Lib.hid hc
    clear hn2 hx hc hb m0 m1 m2
    generalize l[k] = a at *
    go_wp2_with (go_at_call 56; (with_reducible refine (Hc.out).mono ?_); rintro e w5 ⟨rfl, hb5⟩; have Hb5 := Lib.hid hb5; clear hb5)
    go_roundw
    case rel => exact ⟨k + 1, by omega, by go_num, bthen Hb.out Hb5.out, Hn2⟩
    case measure => simp [intOf]; omega
  ·have hr := idxP_none (l := l) (p := p) (fun j hj => hn.out j hj (by omega))
   have Hr := Lib.hid hr; have Hb := Lib.hid hb
   clear hr hb
   go_wp2_with fail
   go_ret
   exact ⟨ret_i Hr.out.symm, Hb.out⟩
theorem ContainsTest_calls (w : World) (v : Value) (l : List Tst) (h : RdL testE 3 w.heap.size w v l) (p : Tst → Bool) (bx : Value)
  (hp : ∀ w', Below w.heap.size w w' → ∀ i (hi : i < l.length), (l[i].name.size ≤ maxLen ∧ l[i].value.size ≤ maxLen ∧ (Lit.int .i64 l[i].kind).wf = true) → Calls Tryz.prog 56 #[.agg #[.int .i64 l[i].kind, .string l[i].name, .string l[i].value], bx] w' fun e w'' => e = .returned (.bool (p l[i])) ∧ Below w'.heap.size w' w'') :
  Calls Tryz.prog 55 #[v, .func (.func 56) #[] #[bx]] w fun e w' => e = .returned (.bool (l.any p)) ∧ Below w.heap.size w w' := by
 have hi := IndexTest_calls w v l h p bx hp
 have ha := any_iff (l := l) (p := p)
 have Hi := Lib.hid hi; have Ha := Lib.hid ha
 obtain ⟨A0, c0, rfl, hl0, hc0, _⟩ := h.form
 clear hi h hp ha
 generalize l.any p = y at *
 generalize idxP l p = z at *
 go_enter Tryz.func55, Tryz.ntmps55
 go_wp2_with (go_at_call 118; (with_reducible refine (Hi.out).mono ?_); rintro e w5 ⟨rfl, hb5⟩; have Hb5 := Lib.hid hb5; clear hb5)
 go_ret
 exact ⟨by rw [← Ha.out]; rfl, Hb5.out⟩
theorem IndexRow_calls (w : World) (v : Value) (l : List Sro) (h : RdL rowE 1 w.heap.size w v l) (p : Sro → Bool) (bx by_ : Value)
  (hp : ∀ w', Below w.heap.size w w' → ∀ i (hi : i < l.length), ∀ (At : Option Addr) (ct : Nat), (RdL stepE 2 w'.heap.size w' (.slice At l[i].length ct) l[i]) → Calls Tryz.prog 52 #[.slice At l[i].length ct, bx, by_] w' fun e w'' => e = .returned (.bool (p l[i])) ∧ Below w'.heap.size w' w'') :
  Calls Tryz.prog 116 #[v, .func (.func 52) #[] #[bx, by_]] w fun e w' => e = .returned (.int .i64 (idxP l p)) ∧ Below w.heap.size w w' := by
 have HR := Lib.hid (fun w' hb => h.below rowE_keeps (w' := w') hb (Nat.le_refl _))
 obtain ⟨A0, c0, rfl, hl0, hc0, _⟩ := h.form
 simp only [maxLen] at hc0
 have Hp := Lib.hid hp
 clear h hp
 go_enter Tryz.func116, Tryz.ntmps116
 go_wp2_with fail
 go_loopw [8] (fun i wr => ∃ k : Nat, k ≤ l.length ∧ i = .int .i64 k ∧ Below w.heap.size w wr ∧ Hid (∀ j (hj : j < l.length), j < k → p l[j] = false)) (fun i _ => l.length - (intOf i).toNat)
 case atStart => exact ⟨0, Nat.zero_le _, rfl, Below.refl _ _, Lib.hid (fun j _ h => absurd h (Nat.not_lt_zero _))⟩
 case round =>
  obtain ⟨k, hk, rfl, hb, hn⟩ := hrel
  by_cases hlt : k < l.length
  ·obtain ⟨b, o, At, ct, rfl, hbl, g0, r0, m0, m1⟩ := row_at (HR.out _ hb) hlt
   have hbs := hb.size
   have hc := Hp.out wr hb k hlt _ _ (r0.mono stepE_keeps hbs)
   have Hb := Lib.hid hb
   cases hx : p l[k] with
   | true =>
    rw [hx] at hc
    have hr := idxP_hit hlt hx hn.out
    have Hr := Lib.hid hr; have Hc := Lib.hid hc
    clear hr hx hc hb r0 m0 m1
    generalize l[k] = a at *
    go_wp2_with (go_at_call 52; (with_reducible refine (Hc.out).mono ?_); rintro e w5 ⟨rfl, hb5⟩; have Hb5 := Lib.hid hb5; clear hb5)
    go_ret
    exact ⟨ret_i Hr.out.symm, bthen Hb.out Hb5.out⟩
   | false =>
    rw [hx] at hc
    have hn2 : ∀ j (hj : j < l.length), j < k + 1 → p l[j] = false := fun j hj hjk => by
     by_cases e : j = k
     ·subst e; exact hx
     ·exact hn.out j hj (by omega)
    have Hn2 := Lib.hid hn2; have Hc := Lib.hid hc
    clear hn2 hx hc hb r0 m0 m1
    generalize l[k] = a at *
    go_wp2_with (go_at_call 52; (with_reducible refine (Hc.out).mono ?_); rintro e w5 ⟨rfl, hb5⟩; have Hb5 := Lib.hid hb5; clear hb5)
    go_roundw
    case rel => exact ⟨k + 1, by omega, by go_num, bthen Hb.out Hb5.out, Hn2⟩
    case measure => simp [intOf]; omega
  ·have hr := idxP_none (l := l) (p := p) (fun j hj => hn.out j hj (by omega))
   have Hr := Lib.hid hr; have Hb := Lib.hid hb
   clear hr hb
   go_wp2_with fail
   go_ret
   exact ⟨ret_i Hr.out.symm, Hb.out⟩
theorem ContainsRow_calls (w : World) (v : Value) (l : List Sro) (h : RdL rowE 1 w.heap.size w v l) (p : Sro → Bool) (bx by_ : Value)
  (hp : ∀ w', Below w.heap.size w w' → ∀ i (hi : i < l.length), ∀ (At : Option Addr) (ct : Nat), (RdL stepE 2 w'.heap.size w' (.slice At l[i].length ct) l[i]) → Calls Tryz.prog 52 #[.slice At l[i].length ct, bx, by_] w' fun e w'' => e = .returned (.bool (p l[i])) ∧ Below w'.heap.size w' w'') :
  Calls Tryz.prog 51 #[v, .func (.func 52) #[] #[bx, by_]] w fun e w' => e = .returned (.bool (l.any p)) ∧ Below w.heap.size w w' := by
 have hi := IndexRow_calls w v l h p bx by_ hp
 have ha := any_iff (l := l) (p := p)
 have Hi := Lib.hid hi; have Ha := Lib.hid ha
 obtain ⟨A0, c0, rfl, hl0, hc0, _⟩ := h.form
 clear hi h hp ha
 generalize l.any p = y at *
 generalize idxP l p = z at *
 go_enter Tryz.func51, Tryz.ntmps51
 go_wp2_with (go_at_call 116; (with_reducible refine (Hi.out).mono ?_); rintro e w5 ⟨rfl, hb5⟩; have Hb5 := Lib.hid hb5; clear hb5)
 go_ret
 exact ⟨by rw [← Ha.out]; rfl, Hb5.out⟩
theorem IndexInt_calls (w : World) (v : Value) (l : List Int) (h : RdL (intE .i64) 1 w.heap.size w v l) (p : Int → Bool) (bx by_ : Value)
  (hp : ∀ w', Below w.heap.size w w' → ∀ i (hi : i < l.length), ((Lit.int .i64 l[i]).wf = true) → Calls Tryz.prog 48 #[.int .i64 l[i], bx, by_] w' fun e w'' => e = .returned (.bool (p l[i])) ∧ Below w'.heap.size w' w'') :
  Calls Tryz.prog 47 #[v, .func (.func 48) #[] #[bx, by_]] w fun e w' => e = .returned (.int .i64 (idxP l p)) ∧ Below w.heap.size w w' := by
 have HR := Lib.hid (fun w' hb => h.below (intE_keeps _) (w' := w') hb (Nat.le_refl _))
 obtain ⟨A0, c0, rfl, hl0, hc0, _⟩ := h.form
 simp only [maxLen] at hc0
 have Hp := Lib.hid hp
 clear h hp
 go_enter Tryz.func47, Tryz.ntmps47
 go_wp2_with fail
 go_loopw [8] (fun i wr => ∃ k : Nat, k ≤ l.length ∧ i = .int .i64 k ∧ Below w.heap.size w wr ∧ Hid (∀ j (hj : j < l.length), j < k → p l[j] = false)) (fun i _ => l.length - (intOf i).toNat)
 case atStart => exact ⟨0, Nat.zero_le _, rfl, Below.refl _ _, Lib.hid (fun j _ h => absurd h (Nat.not_lt_zero _))⟩
 case round =>
  obtain ⟨k, hk, rfl, hb, hn⟩ := hrel
  by_cases hlt : k < l.length
  ·obtain ⟨b, o, rfl, hbl, g0, m0⟩ := intE_at (HR.out _ hb) hlt
   have hbs := hb.size
   have hc := Hp.out wr hb k hlt m0
   have Hb := Lib.hid hb
   cases hx : p l[k] with
   | true =>
    rw [hx] at hc
    have hr := idxP_hit hlt hx hn.out
    have Hr := Lib.hid hr; have Hc := Lib.hid hc
    clear hr hx hc hb m0
    generalize l[k] = a at *
    go_wp2_with (go_at_call 48; (with_reducible refine (Hc.out).mono ?_); rintro e w5 ⟨rfl, hb5⟩; have Hb5 := Lib.hid hb5; clear hb5)
    go_ret
    exact ⟨ret_i Hr.out.symm, bthen Hb.out Hb5.out⟩
   | false =>
    rw [hx] at hc
    have hn2 : ∀ j (hj : j < l.length), j < k + 1 → p l[j] = false := fun j hj hjk => by
     by_cases e : j = k
     ·subst e; exact hx
     ·exact hn.out j hj (by omega)
    have Hn2 := Lib.hid hn2; have Hc := Lib.hid hc
    clear hn2 hx hc hb m0
    generalize l[k] = a at *
    go_wp2_with (go_at_call 48; (with_reducible refine (Hc.out).mono ?_); rintro e w5 ⟨rfl, hb5⟩; have Hb5 := Lib.hid hb5; clear hb5)
    go_roundw
    case rel => exact ⟨k + 1, by omega, by go_num, bthen Hb.out Hb5.out, Hn2⟩
    case measure => simp [intOf]; omega
  ·have hr := idxP_none (l := l) (p := p) (fun j hj => hn.out j hj (by omega))
   have Hr := Lib.hid hr; have Hb := Lib.hid hb
   clear hr hb
   go_wp2_with fail
   go_ret
   exact ⟨ret_i Hr.out.symm, Hb.out⟩
end Go.Proofs.YtmbhkkophkccbaaGreat.Fn
end
section
namespace Go.Proofs.YtmbhkkophkccbaaGreat.SeqN
open Go Go.RowKit Go.Proofs.YtmbhkkophkccbaaGreat.Seq
set_option linter.unusedVariables false

def SeqCn (P : Program) (gf : Nat) (lb : Array Value) (encs : List (Array Value)) (Y Z : Nat → Prop) (Wc : World → Prop) : Prop :=
 ∀ (l : Nat) (J Jx : Nat → (Nat → Prop) → World → Prop) (X : Nat → Prop) (W : World), Wc W → Foot J → Foot Jx → (∀ b, X b → ¬ Y b ∧ ¬ Z b) → J 0 X W →
  (∀ k X W (hk : k < encs.length), J k X W → YieldAt Fence.wide 0 P l encs[k] W (RoundR X W (J (k + 1)) (Jx k))) →
  CallsIn Fence.wide 0 P gf (#[.func (.yield l) #[] #[]] ++ lb) W (SeqR X Y W (J encs.length) (fun X' W' => ∃ k, k < encs.length ∧ Jx k X' W'))

theorem wpIn_rangeN {P : Program} {g : Operand} {pts : Array Tmp} {assign body : Code} {Q : Exit → Act → World → Prop} {a : Act} {w : World}
  {gf : Nat} {lb : Array Value} (hg : a.eval g = .func (.func gf) #[] lb) (eg : ∀ args w, (callFunc gf args).run P w = .ok (.enter gf args) w)
  {encs : List (Array Value)} {Y Z : Nat → Prop} {Wc : World → Prop} (hseq : SeqCn P gf lb encs Y Z Wc)
  (hWc : ∀ W, Off (fun _ => False) w W → Wc W)
  (I : Nat → (Nat → Prop) → World → Prop) (Ix : Code → Nat → (Nat → Prop) → World → Prop) (hI : Foot I) (hIx : ∀ c, Foot (Ix c)) (X : Nat → Prop)
  (hX : ∀ b, X b → ¬ Y b ∧ ¬ Z b) (h0 : I 0 X w) (hYZ : ∀ b, Y b ∨ Z b → b < w.heap.size) (a₁ : Nat → Act)
  (hassign : ∀ (l k : Nat) (hk : k < encs.length) (W : World) (K : Act → World → Prop), K (a₁ k) W →
   assign.wpIn (Fence.wide.inRound l) 0 P (Exit.then K (fun _ _ _ => False)) { tmps := (pts.zip encs[k]).foldl (fun t (p, v) => t.setIfInBounds p v) a.tmps, defers := [] } W)
  (hsz : ∀ k (hk : k < encs.length), encs[k].size = pts.size)
  (hbody : ∀ (l k : Nat) (hk : k < encs.length) (X : Nat → Prop) (W : World), I k X W → body.wpIn (Fence.wide.inRound l) 0 P (bodyR X W (I (k + 1)) (fun c => Ix c k)) (a₁ k) W)
  (hdone : ∀ (D : Nat) (X' : Nat → Prop) (W : World), w.heap.size ≤ D → ¬ X' D → Grew X w X' → Off (fun b => X b ∨ Y b) w W → I encs.length X' W → W.heap[D]? = some (.deferred (some [])) → Q .normal { a with defers := CollD D :: a.defers } W)
  (hstop : ∀ (D : Nat) (c : Code) (k : Nat) (X' : Nat → Prop) (W : World), k < encs.length → w.heap.size ≤ D → ¬ X' D → Grew X w X' → Off (fun b => X b ∨ Y b) w W → Ix c k X' W → W.heap[D]? = some (.deferred (some [])) →
   c.wpIn Fence.wide 0 P Q { a with defers := CollD D :: a.defers } W) :
  (Code.rangeFunc g pts assign body).wpIn Fence.wide 0 P Q a w := by
 refine wpIn_rangeFunc ?_
 intro fn hfn
 obtain ⟨rec, hrec⟩ : ∃ rec : LoopState → Option Code → Loop, rec = fun st pe => { state := st, pending := pe, fn, tmps := a.tmps, params := pts, assign, body, defers := w.heap.size } := ⟨_, rfl⟩
 obtain ⟨W1, hW1⟩ : ∃ W1, (w.alloc (.deferred (some []))).alloc (.loop (rec .ready none)) = W1 := ⟨_, rfl⟩
 have hL1 : W1.heap[w.heap.size + 1]? = some (.loop (rec .ready none)) := by
  rw [← hW1]; have := World.alloc_heap_new (w.alloc (.deferred (some []))) (.loop (rec .ready none)); rwa [World.size_alloc] at this
 have hK1 : W1.heap[w.heap.size]? = some (.deferred (some [])) := by
  rw [← hW1]; exact (Below.heap_alloc _ _ _ (by simp)).trans (World.alloc_heap_new w _)
 have hOff1 : ∀ Y', Off Y' w W1 := fun Y' => by rw [← hW1]; exact (Off.alloc _ _ _).trans (Off.alloc _ _ _)
 have hs1 : W1.heap.size = w.heap.size + 2 := by rw [← hW1]; simp
 have hI1 : I 0 X W1 := hI.1 0 X w W1 h0 (hOff1 _)
 have hXlt : ∀ b, X b → b < w.heap.size := fun b hb => hI.2 0 X w b h0 hb
 refine ⟨w.heap.size + 1, [{ target := .collected w.heap.size, args := #[] }], W1, { target := .fn (.func gf) lb, args := #[.func (.yield (w.heap.size + 1)) #[] #[]] }, W1, gf,
  #[.func (.yield (w.heap.size + 1)) #[] #[]] ++ lb, W1, ?_, ?_, ?_, ?_, fun h => by simp [Fence.wide] at h, ?_⟩
 ·rw [← hW1, hrec]; exact run_enterLoop_outer _ _ _ _ _
 ·simp only [resolve, hg]
  simp [go_sem]
 ·intro f' hf'; trivial
 ·simp [invoke, go_sem, eg]
 ·-- the two blocks of book-keeping beside the caller's own
  let Bk : (Nat → Prop) → (Nat → Prop) → Prop := fun X' X0 => ∀ b, X' b ↔ (X0 b ∨ b = w.heap.size ∨ b = w.heap.size + 1)
  let J : Nat → (Nat → Prop) → World → Prop := fun k X' W => ∃ X0, Bk X' X0 ∧ ¬ X0 w.heap.size ∧ ¬ X0 (w.heap.size + 1) ∧ Grew X w X0 ∧ I k X0 W ∧ W.heap[w.heap.size + 1]? = some (.loop (rec .ready none)) ∧ W.heap[w.heap.size]? = some (.deferred (some []))
  let Jx : Nat → (Nat → Prop) → World → Prop := fun k X' W => ∃ c X0, Bk X' X0 ∧ ¬ X0 w.heap.size ∧ ¬ X0 (w.heap.size + 1) ∧ Grew X w X0 ∧ Ix c k X0 W ∧ W.heap[w.heap.size + 1]? = some (.loop (rec .done (some c))) ∧ W.heap[w.heap.size]? = some (.deferred (some []))
  have keep : ∀ {X' X0 : Nat → Prop} {W W' : World} {o : Obj} {b : Nat}, Bk X' X0 → X' b → Off (fun b => ¬ X' b) W W' → W.heap[b]? = some o → W'.heap[b]? = some o :=
   fun {X' X0 W W' o b} hbk hx ho hb => (ho.block b (Array.getElem?_eq_some_iff.1 hb).1 (fun h => h hx)).trans hb
  have hJ : Foot J := by
   refine ⟨?_, ?_⟩
   ·rintro k X' W W' ⟨X0, hbk, n1, n2, hgr, hi, hl, hk⟩ ho
    exact ⟨X0, hbk, n1, n2, hgr, hI.1 _ _ _ _ hi (ho.mono (fun b _ hn h0 => hn ((hbk b).2 (.inl h0)))), keep hbk ((hbk _).2 (.inr (.inr rfl))) ho hl, keep hbk ((hbk _).2 (.inr (.inl rfl))) ho hk⟩
   ·rintro k X' W b ⟨X0, hbk, n1, n2, hgr, hi, hl, hk⟩ hb
    rcases (hbk b).1 hb with h | rfl | rfl
    ·exact hI.2 _ _ _ _ hi h
    ·exact (Array.getElem?_eq_some_iff.1 hk).1
    ·exact (Array.getElem?_eq_some_iff.1 hl).1
  have hJx : Foot Jx := by
   refine ⟨?_, ?_⟩
   ·rintro k X' W W' ⟨c, X0, hbk, n1, n2, hgr, hi, hl, hk⟩ ho
    exact ⟨c, X0, hbk, n1, n2, hgr, (hIx c).1 _ _ _ _ hi (ho.mono (fun b _ hn h0 => hn ((hbk b).2 (.inl h0)))), keep hbk ((hbk _).2 (.inr (.inr rfl))) ho hl, keep hbk ((hbk _).2 (.inr (.inl rfl))) ho hk⟩
   ·rintro k X' W b ⟨c, X0, hbk, n1, n2, hgr, hi, hl, hk⟩ hb
    rcases (hbk b).1 hb with h | rfl | rfl
    ·exact (hIx c).2 _ _ _ _ hi h
    ·exact (Array.getElem?_eq_some_iff.1 hk).1
    ·exact (Array.getElem?_eq_some_iff.1 hl).1
  have hXY : ∀ b, (X b ∨ b = w.heap.size ∨ b = w.heap.size + 1) → ¬ Y b ∧ ¬ Z b := by
   rintro b (h | rfl | rfl)
   ·exact hX b h
   ·exact ⟨fun h => by have := hYZ _ (.inl h); omega, fun h => by have := hYZ _ (.inr h); omega⟩
   ·exact ⟨fun h => by have := hYZ _ (.inl h); omega, fun h => by have := hYZ _ (.inr h); omega⟩
  refine (hseq (w.heap.size + 1) J Jx (fun b => X b ∨ b = w.heap.size ∨ b = w.heap.size + 1) W1 (hWc W1 (hOff1 _)) hJ hJx hXY ⟨X, fun b => Iff.rfl, fun h => by have := hXlt _ h; omega, fun h => by have := hXlt _ h; omega, Grew.refl _ _, hI1, hL1, hK1⟩ ?_).mono ?_
  ·-- one round
   rintro k X' W hk ⟨X0, hbk, n1, n2, hgr, hi, hl, hd⟩
   have hlt : w.heap.size + 1 < W.heap.size := (Array.getElem?_eq_some_iff.1 hl).1
   have hy := run_yield (P := P) (args := encs[k]) hl (by rw [hrec]; exact (hsz k hk))
   rw [hrec] at hy
   refine ⟨fn, _, assign, body, hy, roundIn_of_wpIn hfn ?_⟩
   have ha := hassign (w.heap.size + 1) k hk W (fun a₁' w₁ => ∃ w₂, (Instr.beginRound (w.heap.size + 1)).run P w₁ = .ok () w₂ ∧ body.wpIn (Fence.wide.inRound (w.heap.size + 1)) 0 P (roundPost P (w.heap.size + 1) (RoundR X' W (J (k + 1)) (Jx k))) a₁' w₂) ?_
   ·exact ha
   refine ⟨_, run_beginRound hl (by rw [hrec]), ?_⟩
   have hl2 : (W.putObj (w.heap.size + 1) (.loop { rec .ready none with state := .busy })).heap[w.heap.size + 1]? = some (.loop { rec .ready none with state := .busy }) := World.putObj_heap_same hlt
   have hd2 : (W.putObj (w.heap.size + 1) (.loop { rec .ready none with state := .busy })).heap[w.heap.size]? = some (.deferred (some [])) := (World.putObj_heap_other (by omega)).trans hd
   have ho2 : Off (fun b => b = w.heap.size + 1) W (W.putObj (w.heap.size + 1) (.loop { rec .ready none with state := .busy })) := Off.putObj _ _ _ rfl
   have hi2 : I k X0 (W.putObj (w.heap.size + 1) (.loop { rec .ready none with state := .busy })) := hI.1 _ _ _ _ hi (ho2.mono (fun b _ e h => n2 (e ▸ h)))
   refine wpIn_mono (hbody _ k hk X0 _ hi2) ?_
   have fin : ∀ (jump : Option Code) (X3 : Nat → Prop) (W3 : World), Grew X0 (W.putObj (w.heap.size + 1) (.loop { rec .ready none with state := .busy })) X3 → Off X0 (W.putObj (w.heap.size + 1) (.loop { rec .ready none with state := .busy })) W3 →
     (Instr.endRound (w.heap.size + 1) jump).run P W3 = .ok (.bool jump.isNone) (W3.putObj (w.heap.size + 1) (.loop (rec (if jump.isNone then .ready else .done) jump))) ∧
     (W3.putObj (w.heap.size + 1) (.loop (rec (if jump.isNone then .ready else .done) jump))).heap[w.heap.size + 1]? = some (.loop (rec (if jump.isNone then .ready else .done) jump)) ∧
     (W3.putObj (w.heap.size + 1) (.loop (rec (if jump.isNone then .ready else .done) jump))).heap[w.heap.size]? = some (.deferred (some [])) ∧
     ¬ X3 w.heap.size ∧ ¬ X3 (w.heap.size + 1) ∧ Grew X w X3 ∧ Off X' W (W3.putObj (w.heap.size + 1) (.loop (rec (if jump.isNone then .ready else .done) jump))) ∧
     Grew X' W (fun b => X3 b ∨ b = w.heap.size ∨ b = w.heap.size + 1) ∧ Off (fun b => ¬ X3 b) W3 (W3.putObj (w.heap.size + 1) (.loop (rec (if jump.isNone then .ready else .done) jump))) := fun jump X3 W3 hg3 ho3 => by
    have hsz : (W.putObj (w.heap.size + 1) (.loop { rec .ready none with state := .busy })).heap.size = W.heap.size := World.putObj_size
    have hl3 := (ho3.block (w.heap.size + 1) (by rw [hsz]; omega) n2).trans hl2
    have hd3 := (ho3.block w.heap.size (by rw [hsz]; omega) n1).trans hd2
    have m1 : ¬ X3 w.heap.size := fun h => by rcases hg3 _ h with h | h; exact n1 h; rw [hsz] at h; omega
    have m2 : ¬ X3 (w.heap.size + 1) := fun h => by rcases hg3 _ h with h | h; exact n2 h; rw [hsz] at h; omega
    have hr := run_endRound (P := P) jump hl3
    rw [hrec] at hr ⊢
    refine ⟨hr, World.putObj_heap_same (Array.getElem?_eq_some_iff.1 hl3).1, (World.putObj_heap_other (by omega)).trans hd3, m1, m2, ?_, ?_, ?_, Off.putObj _ _ _ m2⟩
    ·exact hgr.trans (W' := W) (fun b h => by rcases hg3 b h with h | h; exact .inl h; rw [hsz] at h; exact .inr h) (by omega)
    ·have t1 : Off X' W (W.putObj (w.heap.size + 1) (.loop { rec .ready none with state := .busy })) := Off.putObj _ _ _ ((hbk _).2 (.inr (.inr rfl)))
     have t2 : Off X' (W.putObj (w.heap.size + 1) (.loop { rec .ready none with state := .busy })) W3 := ho3.mono (fun b _ h => (hbk b).2 (.inl h))
     rw [hrec] at t1 t2
     exact (t1.trans t2).trans (Off.putObj _ _ _ ((hbk _).2 (.inr (.inr rfl))))
    ·rintro b (h | rfl | rfl)
     ·rcases hg3 b h with h | h
      ·exact .inl ((hbk b).2 (.inl h))
      ·rw [hsz] at h; exact .inr h
     ·exact .inl ((hbk _).2 (.inr (.inl rfl)))
     ·exact .inl ((hbk _).2 (.inr (.inr rfl)))
   rintro e a3 W3 hp
   cases e with
   | normal =>
    obtain ⟨X3, hg3, ho3, hi3⟩ := hp
    obtain ⟨hr, hl4, hd4, m1, m2, hgx, hof, hgf, hoff⟩ := fin none X3 W3 hg3 ho3
    exact ⟨_, _, hr, _, hgf, hof, .inl ⟨rfl, X3, fun b => Iff.rfl, m1, m2, hgx, hI.1 _ _ _ _ hi3 hoff, hl4, hd4⟩⟩
   | ret =>
    obtain ⟨X3, hg3, ho3, hi3⟩ := hp
    obtain ⟨hr, hl4, hd4, m1, m2, hgx, hof, hgf, hoff⟩ := fin (some .ret) X3 W3 hg3 ho3
    exact ⟨_, _, hr, _, hgf, hof, .inr ⟨rfl, .ret, X3, fun b => Iff.rfl, m1, m2, hgx, (hIx _).1 _ _ _ _ hi3 hoff, hl4, hd4⟩⟩
   | exit id =>
    obtain ⟨X3, hg3, ho3, hi3⟩ := hp
    obtain ⟨hr, hl4, hd4, m1, m2, hgx, hof, hgf, hoff⟩ := fin (some (.exit id)) X3 W3 hg3 ho3
    exact ⟨_, _, hr, _, hgf, hof, .inr ⟨rfl, .exit id, X3, fun b => Iff.rfl, m1, m2, hgx, (hIx _).1 _ _ _ _ hi3 hoff, hl4, hd4⟩⟩
   | goto t =>
    obtain ⟨X3, hg3, ho3, hi3⟩ := hp
    obtain ⟨hr, hl4, hd4, m1, m2, hgx, hof, hgf, hoff⟩ := fin (some (.goto t)) X3 W3 hg3 ho3
    exact ⟨_, _, hr, _, hgf, hof, .inr ⟨rfl, .goto t, X3, fun b => Iff.rfl, m1, m2, hgx, (hIx _).1 _ _ _ _ hi3 hoff, hl4, hd4⟩⟩
   | panic ch => exact hp.elim
   | outgrown => exact hp.elim
  ·-- behind the iterator
   rintro e W2 ⟨⟨v, rfl⟩, X', hgX, hoff, h⟩
   have hOffw : ∀ (X0 : Nat → Prop) (o : Obj), Off (fun b => X b ∨ Y b) w (W2.putObj (w.heap.size + 1) o) := fun X0 o => by
    have t := (hOff1 (fun b => X b ∨ Y b)).trans' (hoff.trans (Off.putObj W2 (w.heap.size + 1) o (.inl (.inr (.inr rfl))))) (fun b hb => by
     rcases hb with (h | rfl | rfl) | h
     ·exact .inl (.inl h)
     ·exact .inr (Nat.le_refl _)
     ·exact .inr (by omega)
     ·exact .inl (.inr h))
    exact t
   rcases h with ⟨X0, hbk, n1, n2, hgr, hi, hl, hd⟩ | ⟨k, hk, c, X0, hbk, n1, n2, hgr, hi, hl, hd⟩
   ·refine ⟨none, _, by have := run_endLoop (P := P) hl (by rw [hrec]; simp); rw [hrec] at this; exact this, ?_⟩
    exact hdone w.heap.size X0 _ (Nat.le_refl _) n1 hgr (hOffw X0 _) (hI.1 _ _ _ _ hi (Off.putObj _ _ _ n2)) ((World.putObj_heap_other (by omega)).trans hd)
   ·refine ⟨some c, _, by have := run_endLoop (P := P) hl (by rw [hrec]; simp); rw [hrec] at this; exact this, ?_⟩
    exact hstop w.heap.size c k X0 _ hk (Nat.le_refl _) n1 hgr (hOffw X0 _) ((hIx c).1 _ _ _ _ hi (Off.putObj _ _ _ n2)) ((World.putObj_heap_other (by omega)).trans hd)
end Go.Proofs.YtmbhkkophkccbaaGreat.SeqN
end
section
namespace Go.Proofs.YtmbhkkophkccbaaGreat.BackIt
open Go Go.RowKit Go.Shelf WS Go.Proofs.YtmbhkkophkccbaaGreat.Seq SeqN Mem Rd
set_option linter.unusedVariables false
set_option linter.unusedSimpArgs false
theorem wide_fn (f : FuncId) : Fence.wide.fn f = True := rfl
theorem wide_depth : Fence.wide.depth = none := rfl
theorem wide_round : Fence.wide.round = none := rfl
attribute [local go_sem] Oper.semAt_some wide_fn wide_depth wide_round

def backE (l : List Int) : List (Array Value) := (List.range l.length).map (fun m => #[.int .i64 ((l.length - 1 - m : Nat) : Int), .int .i64 (l.getD (l.length - 1 - m) 0)])
theorem backE_length (l : List Int) : (backE l).length = l.length := by simp [backE]
theorem backE_get (l : List Int) {m : Nat} (hm : m < (backE l).length) : (backE l)[m] = #[.int .i64 ((l.length - 1 - m : Nat) : Int), .int .i64 (l.getD (l.length - 1 - m) 0)] := by simp [backE]
theorem below_off {X : Nat → Prop} {W W' : World} {N0 : Nat} (h : Off X W W') (hN : N0 ≤ W.heap.size) (hX : ∀ b, X b → N0 ≤ b) : Below N0 W W' := h.toBelow hN hX
set_option maxHeartbeats 800000 in
theorem backward_seq (kids : List Int) (hk : kids.length ≤ 1000) (N0 B : Nat) (hB : N0 ≤ B) (v : Value) :
  SeqCn Tryz.prog 218 #[.pointer (some ⟨B, 0, none⟩)] (backE kids) (fun _ => False) (fun b => b < N0 ∨ b = B) (fun W => W.heap[B]? = some (.cells #[v] 34 (0, 0)) ∧ RdL (intE .i64) 1 N0 W v kids ∧ N0 ≤ W.heap.size) := by
 intro l J Jx X W hW hJ hJx hX h0 hY
 obtain ⟨hbox, hrd, hN⟩ := hW
 obtain ⟨A0, c0, rfl, hl0, hc0, _⟩ := hrd.form
 simp only [maxLen] at hc0
 refine callsIn_of_wp Tryz.func218 rfl trivial ?_ rfl
 simp only [Tryz.ntmps218, List.size_toArray, List.length_cons, List.length_nil, Nat.reduceAdd, Nat.reduceSub, Array.replicate_succ, Array.replicate_zero, List.push_toArray, List.append_toArray, List.nil_append, List.cons_append]
 have hXN : ∀ b, X b → N0 ≤ b := fun b hb => by have := (hX b hb).2; omega
 have hkeep : ∀ W', Off X W W' → W'.cell? ⟨B, 0, none⟩ = some (.slice A0 kids.length c0) ∧ RdL (intE .i64) 1 N0 W' (.slice A0 kids.length c0) kids := fun W' ho =>
  ⟨(World.cell?_of_block (ho.block B (lt_heap hbox) (fun h => by have := (hX B h).2; omega))).trans (cell_of hbox), hrd.keep (intE_keeps _) (below_off ho hN hXN) (Nat.le_refl _)⟩
 have c0' := (hkeep W (Off.refl _ _)).1
 have HJ := Lib.hid hJ; have HJx := Lib.hid hJx; have HX := Lib.hid hX; have HY := Lib.hid hY; have H0 := Lib.hid h0; have Hkeep := Lib.hid hkeep
 clear hJ hJx hX hY h0 hbox hrd hkeep hXN
 have hw1 : IntKind.i64.wrap ((kids.length : Int) - 1) = (kids.length : Int) - 1 := by rw [IntKind.wrap_i64]; omega
 gi_wp2
 clear c0' hw1
 gi_loopg [3] kids.length (fun g i wr => ∃ (m : Nat) (z : Int) (X' : Nat → Prop), g = kids.length - m ∧ m ≤ kids.length ∧ i = .int .i64 z ∧ Hid (z = (kids.length : Int) - 1 - m) ∧ J m X' wr ∧ Grew X W X' ∧ Off X W wr)
 case atStart => exact ⟨0, (kids.length : Int) - 1, X, rfl, Nat.zero_le _, rfl, Lib.hid (by simp), H0.out, Grew.refl _ _, Off.refl _ _⟩
 case round =>
  obtain ⟨m, z, X', hg, hm, rfl, hz, hj, hgr, hoff⟩ := hrel
  obtain ⟨c0', hr0⟩ := Hkeep.out wr hoff
  by_cases hlt : m < kids.length
  ·obtain ⟨j, hjm⟩ : ∃ j : Nat, kids.length = j + 1 + m := ⟨kids.length - 1 - m, by omega⟩
   have hzj : z = (j : Int) := by rw [hz.out]; omega
   subst hzj
   have hjl : j < kids.length := by omega
   obtain ⟨b, o, rfl, hb, e1, _⟩ := intE_at hr0 hjl
   have hkE : m < (backE kids).length := by rw [backE_length]; exact hlt
   have henc : (backE kids)[m] = #[.int .i64 (j : Int), .int .i64 kids[j]] := by
    rw [backE_get, show kids.length - 1 - m = j by omega, List.getD_eq_getElem?_getD, List.getElem?_eq_getElem hjl]
    rfl
   obtain ⟨fn, tmps, assign, body, hy, hR⟩ := HY.out m X' wr hkE hj
   rw [henc] at hy
   have HR := Lib.hid hR; have Hj := Lib.hid hj; have Hgr := Lib.hid hgr; have Hoff := Lib.hid hoff; have Hjm := Lib.hid hjm
   have hjk : (j : Int) < (kids.length : Int) := by omega
   have hwj : IntKind.i64.wrap ((j : Int) - 1) = (j : Int) - 1 := by rw [IntKind.wrap_i64]; omega
   clear hR hj hgr hoff henc hr0 hjm hz
   generalize kids[j] = x at *
   gi_wp2
   refine HR.out.mono ?_
   rintro e W3 ⟨X3, hg3, ho3, h3⟩
   have hoff3 : Off X W W3 := Hoff.out.trans' ho3 (fun b hb => Hgr.out b hb)
   have hgr3 : Grew X W X3 := Hgr.out.trans hg3 Hoff.out.size
   have Hoff3 := Lib.hid hoff3; have Hgr3 := Lib.hid hgr3
   clear hoff3 hgr3 hg3 ho3
   rcases h3 with ⟨rfl, hj3⟩ | ⟨rfl, hj3⟩
   ·have Hj3 := Lib.hid hj3; clear hj3
    gi_wp2
    gi_roundg (kids.length - (m + 1))
    case measure => omega
    case rel => exact ⟨m + 1, (j : Int) - 1, X3, rfl, by omega, rfl, Lib.hid (by have := Hjm.out; omega), Hj3.out, Hgr3.out, Hoff3.out⟩
   ·have Hj3 := Lib.hid hj3; clear hj3
    gi_wp2
    refine bodyPost_ret (results_none rfl _ _ _) rfl ?_
    exact ⟨⟨_, rfl⟩, X3, Hgr3.out, Hoff3.out.mono (fun b _ hb => .inl hb), .inr ⟨m, hkE, Hj3.out⟩⟩
  ·obtain rfl : m = kids.length := by omega
   have hz1 : z = -1 := by rw [hz.out]; omega
   subst hz1
   have Hj := Lib.hid hj; have Hgr := Lib.hid hgr; have Hoff := Lib.hid hoff
   clear hj hgr hoff hz hr0
   gi_wp2
   first | refine bodyPost_end (results_none rfl _ _ _) rfl ?_ | refine bodyPost_ret (results_none rfl _ _ _) rfl ?_
   refine ⟨⟨_, rfl⟩, X', Hgr.out, Hoff.out.mono (fun b _ hb => .inl hb), .inl ?_⟩
   rw [backE_length]
   exact Hj.out
end Go.Proofs.YtmbhkkophkccbaaGreat.BackIt
end
