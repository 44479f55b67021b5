/- Joined by a program: AFirst, AChk, ALies, AAttr, FNew, LGen, ReplB, ShelfC. -/
import Derived.Deep.RegionHeld3
import Derived.Lib.JoinLaws
import Derived.Deep.WholeRow
import Derived.WalkSpells
import Derived.Laws.IdiomStrings
import Derived.Shelf.Strings.Count
import Derived.Test.YthdenkkllpkplaaGreatProg
import Derived.Test.YthdenkkllpkplaaGreatC08
import Derived.Test.YthdenkkllpkplaaGreatC04
import Derived.Test.YthdenkkllpkplaaGreatC06
import Derived.Test.YthdenkkllpkplaaGreatC07
section
/- apply.first: the first error of checks. -/
namespace Go.Proofs.YthdenkkllpkplaaGreat.Doings
open Go Go.RowKit Go.Proofs.YthdenkkllpkplaaGreat.Seq Go.Proofs.YthdenkkllpkplaaGreat.WS Go.Proofs.YthdenkkllpkplaaGreat.FS Go.Proofs.YthdenkkllpkplaaGreat.Mem Go.Proofs.YthdenkkllpkplaaGreat.Rd Go.Proofs.YthdenkkllpkplaaGreat.Work
set_option linter.unusedVariables false
set_option linter.unusedSimpArgs false

/-- An error, the function that checks, what it answers. -/
structure Ck where
  e : Int
  K : Nat
  b : Bool
def ckRow (l : List Ck) : List Value := l.flatMap (fun x => [Value.int .i64 x.e, fnV x.K])
theorem ckRow_at : ∀ {l : List Ck} {i : Nat} (hi : i < l.length), (ckRow l)[i * 2]? = some (.int .i64 l[i].e) ∧ (ckRow l)[i * 2 + 1]? = some (fnV l[i].K)
  | [], i, hi => by cases hi
  | x :: l, 0, _ => ⟨rfl, rfl⟩
  | x :: l, i + 1, hi => by
    have := ckRow_at (l := l) (i := i) (by simpa using hi)
    have e : ckRow (x :: l) = [Value.int .i64 x.e, fnV x.K] ++ ckRow l := rfl
    rw [e, show (i + 1) * 2 = (i * 2) + 2 by omega, show (i * 2) + 2 + 1 = (i * 2 + 1) + 2 by omega]
    exact this
def firstC (l : List Ck) : Int := firstE (l.map (fun x => (x.e, x.b)))
theorem firstC_hit {l : List Ck} {k : Nat} (hk : k < l.length) (hx : l[k].b = false) (hn : ∀ j (hj : j < l.length), j < k → l[j].b = true) : firstC l = l[k].e := by
  unfold firstC firstE
  induction l generalizing k with
  | nil => cases hk
  | cons x l ih =>
    rw [List.map_cons, List.find?_cons]
    cases k with
    | zero =>
      have hx' : x.b = false := hx
      rw [hx']
      rfl
    | succ k =>
      have h0 : x.b = true := hn 0 (by simp) (by omega)
      rw [h0]
      exact ih (by simpa using hk) hx (fun j hj hjk => hn (j + 1) (by simpa using hj) (by omega))
theorem firstC_none {l : List Ck} (hn : ∀ j (hj : j < l.length), l[j].b = true) : firstC l = 0 := by
  unfold firstC firstE
  have : (l.map (fun x => (x.e, x.b))).find? (fun c => !c.2) = none := by
    rw [List.find?_eq_none]
    intro c hc
    obtain ⟨x, hx, rfl⟩ := List.mem_map.1 hc
    obtain ⟨j, hj, rfl⟩ := List.mem_iff_getElem.1 hx
    simp [hn j hj]
  rw [this]
  rfl
def FirstPost (E : Int) (w : World) (e : Ending) (w' : World) : Prop := e = .returned (.int .i64 E) ∧ Below w.heap.size w w'
set_option maxHeartbeats 2000000 in
theorem first_calls [Avoid] {base wk g c : Nat} {o : Opn} {f : Fo} (l : List Ck) (b : Nat) (w : World) (hW : Wk base wk g c o f w) (hrow : w.heap[b]? = some (.cells (ckRow l).toArray 176 (0, 0))) (hl : l.length ≤ 100)
    (heg : ∀ x ∈ l, ∀ args w, (callFunc x.K args).run Tryz.prog w = .ok (.enter x.K args) w)
    (hchk : ∀ i (hi : i < l.length), (∀ j (hj : j < l.length), j < i → l[j].b = true) → Chk l[i].K base wk g c o f l[i].b) :
    Calls Tryz.prog 54 #[.pointer (some ⟨wk, 0, none⟩), .slice (some ⟨b, 0, none⟩) l.length l.length] w (FirstPost (firstC l) w) := by
  have hcell := fun (w' : World) (hb : Below w.heap.size w w') (i : Nat) (hi : i < l.length) => (⟨(cell_of_row _ _ _ _ _ _ ((hb.block b (lt_heap hrow)).trans hrow)).trans ((List.getElem?_toArray ..).trans (ckRow_at hi).1), (cell_of_row _ _ _ _ _ _ ((hb.block b (lt_heap hrow)).trans hrow)).trans ((List.getElem?_toArray ..).trans (ckRow_at hi).2)⟩ : w'.cell? ⟨b, i * 2, none⟩ = some (.int .i64 l[i].e) ∧ w'.cell? ⟨b, i * 2 + 1, none⟩ = some (fnV l[i].K))
  have hsf := store_func
  have Hcell := Lib.hid hcell; have HW := Lib.hid hW; have Heg := Lib.hid heg; have Hchk := Lib.hid hchk
  clear hcell hW heg hchk hrow
  go_enter Tryz.func54, Tryz.ntmps54
  go_wp2_with fail
  go_loopw [9] (fun i wr => ∃ k : Nat, k ≤ l.length ∧ i = .int .i64 k ∧ Below w.heap.size w wr ∧ Hid (∀ j (hj : j < l.length), j < k → l[j].b = true)) (fun i _ => l.length - (intOf i).toNat)
  case atStart => exact ⟨0, Nat.zero_le _, rfl, Below.refl _ _, Lib.hid (fun j _ h => absurd h (Nat.not_lt_zero _))⟩
  case round =>
    obtain ⟨k, hk, rfl, hb, hn⟩ := hrel
    by_cases hlt : k < l.length
    · obtain ⟨e0, e1⟩ := Hcell.out wr hb k hlt
      have hst := Hchk.out k hlt hn.out
      have heg := Heg.out l[k] (List.getElem_mem hlt)
      have Hb := Lib.hid hb
      have hs := hb.size
      obtain ⟨w1, hw1⟩ : ∃ w1, wr.alloc (.cells #[.int .i64 l[k].e, fnV l[k].K] 176) = w1 := ⟨_, rfl⟩
      have hb1 : Below w.heap.size w w1 := by rw [← hw1]; exact hb.alloc hs _
      have hc := hst w1 (HW.out.below hb1)
      have hrow1 : w1.heap[wr.heap.size]? = some (.cells #[.int .i64 l[k].e, fnV l[k].K] 176 (0, 0)) := by rw [← hw1]; exact World.alloc_heap_new wr _
      have q0 : w1.cell? ⟨wr.heap.size, 0, none⟩ = some (.int .i64 l[k].e) := (cell_of_row _ _ _ _ _ _ hrow1).trans rfl
      have q1 : w1.cell? ⟨wr.heap.size, 1, none⟩ = some (fnV l[k].K) := (cell_of_row _ _ _ _ _ _ hrow1).trans rfl
      have Hb1 := Lib.hid hb1; have Hw1 := Lib.hid hw1; have Hc := Lib.hid hc; have Hq0 := Lib.hid q0
      have hhit := fun (hx : l[k].b = false) => firstC_hit hlt hx hn.out
      have hn2 := fun (hx : l[k].b = true) (j : Nat) (hj : j < l.length) (hjk : j < k + 1) => (show l[j].b = true from by
        by_cases e : j = k
        · subst e; exact hx
        · exact hn.out j hj (by omega))
      have Hhit := Lib.hid hhit; have Hn2 := Lib.hid hn2
      clear hst hb hb1 hw1 hc hrow1 hhit hn2 q0
      generalize l[k].e = ek at *
      generalize l[k].K = Kk at *
      generalize l[k].b = bk at *
      go_upto_region 4 with (fail)
      rw [Hw1.out]
      clear e0 e1 hsf
      cases bk with
      | true =>
        go_wp2_with (((with_reducible refine (Hc.out).mono ?_); rintro e w5 ⟨rfl, hb5⟩; have q5 := cell_grow hb5 Hq0.out; have Hb5 := Lib.hid hb5; clear hb5))
        go_roundw
        case rel => exact ⟨k + 1, by omega, by go_num, bthen Hb1.out Hb5.out, Lib.hid (Hn2.out (by trivial))⟩
        case measure => simp [intOf]; omega
      | false =>
        go_wp2_with (((with_reducible refine (Hc.out).mono ?_); rintro e w5 ⟨rfl, hb5⟩; have q5 := cell_grow hb5 Hq0.out; have Hb5 := Lib.hid hb5; clear hb5))
        go_ret
        exact ⟨ret_i (Hhit.out (by trivial)).symm, bthen Hb1.out Hb5.out⟩
    · have hr := firstC_none (l := l) (fun j hj => hn.out j hj (by omega))
      have Hr := Lib.hid hr; have Hb := Lib.hid hb
      clear hr hb
      go_wp2_with fail
      go_ret
      exact ⟨ret_i Hr.out.symm, Hb.out⟩
end Go.Proofs.YthdenkkllpkplaaGreat.Doings
end
section
/- apply's checks: fits, the cycle, lies, attributes. -/
namespace Go.Proofs.YthdenkkllpkplaaGreat.Work
open Go Go.RowKit Go.Proofs.YthdenkkllpkplaaGreat.Seq Go.Proofs.YthdenkkllpkplaaGreat.WS Go.Proofs.YthdenkkllpkplaaGreat.FS Go.Proofs.YthdenkkllpkplaaGreat.Mem Go.Proofs.YthdenkkllpkplaaGreat.Rd Go.Proofs.YthdenkkllpkplaaGreat.Shapes Go.Proofs.YthdenkkllpkplaaGreat.Word Go.Proofs.YthdenkkllpkplaaGreat.FFam Go.Proofs.YthdenkkllpkplaaGreat.OwnF
set_option linter.unusedVariables false
set_option linter.unusedSimpArgs false

section
variable [Avoid] {base wk g c : Nat} {o : Opn} {f : Fo}
end
theorem may_kids {f : Fo} (hm : mayB f = true) : ∀ n ∈ f, n.kids.length ≤ 60 := by
  intro n hn
  obtain ⟨i, hi, rfl⟩ := List.mem_iff_getElem.1 hn
  have hf := may_family hm
  have hnode : isNode f (i : Int) = true := (node_iff _ _).2 ⟨by omega, by omega⟩
  have h1 := kids_nodup hf hnode
  have h2 := nodup_len f.length h1 (fun x hx => (node_iff _ _).1 (fam_kids hf hnode hx).1)
  rw [at_nat hi] at h2
  exact Nat.le_trans h2 (may_len hm).2
section
variable [Avoid] {base wk g c : Nat} {o : Opn} {f : Fo}
theorem cycle_chk (hm : mayB f = true) : Chk 110 base wk g c o f (!belowB f o.id o.to) := by
  intro w h
  obtain ⟨c0, c1, c2, c3, c4, c5, c6⟩ := h.cells
  have hb : ∀ n, Calls Tryz.prog 49 #[.slice (some ⟨g, 0, none⟩) f.length c, .int .i64 o.id, .int .i64 o.to] (w.drewN n) fun e w' => e = .returned (.bool (belowB f o.id o.to)) ∧ Below w.heap.size w w' := fun n =>
    (FBelow.Below_calls (w.drewN n) _ f o.id o.to (h.below (drewN_below (Below.refl _ _) n)).own.rd (fun x hx => Nat.le_trans (may_kids hm x hx) (by decide))).mono (fun e w' hh => ⟨hh.1, (drewN_below (Below.refl _ w) n).trans hh.2⟩)
  have hb1 : Calls Tryz.prog 49 #[.slice (some ⟨g, 0, none⟩) f.length c, .int .i64 o.id, .int .i64 o.to] w fun e w' => e = .returned (.bool (belowB f o.id o.to)) ∧ Below w.heap.size w w' :=
    FBelow.Below_calls w _ f o.id o.to h.own.rd (fun x hx => Nat.le_trans (may_kids hm x hx) (by decide))
  have hl := h.big
  have hb2 : ∀ W, (W = w ∨ W = w.drew) → Calls Tryz.prog 49 #[.slice (some ⟨g, 0, none⟩) f.length c, .int .i64 o.id, .int .i64 o.to] W fun e w' => e = .returned (.bool (belowB f o.id o.to)) ∧ Below w.heap.size w w' := by
    rintro W (rfl | rfl)
    · exact hb1
    · exact (FBelow.Below_calls w.drew _ f o.id o.to (h.below (Below.refl _ _).drew).own.rd (fun x hx => Nat.le_trans (may_kids hm x hx) (by decide))).mono (fun e w' hh => ⟨hh.1, (Below.refl _ w).drew.trans hh.2⟩)
  generalize belowB f o.id o.to = bb at *
  have Hb := Lib.hid hb2
  clear hb hb1 hb2 h hm
  go_enter Tryz.func110, Tryz.ntmps110
  go_wp2_with fail
  go_region_held3 (fun w' => w'.cell? ⟨wk, 0, none⟩ = some (.slice (some ⟨g, 0, none⟩) f.length c) ∧ w'.cell? ⟨wk, 2, none⟩ = some (.int .i64 o.id) ∧ w'.cell? ⟨wk, 3, none⟩ = some (.int .i64 o.to))
    (first | exact ⟨c0, c2, c3⟩ | exact ⟨d0, d2, d3⟩ | go_keep)
    (first | (go_at_call 49; (first | (with_reducible refine (Hb.out _ (.inl rfl)).mono ?_) | (with_reducible refine (Hb.out _ (.inr rfl)).mono ?_)); rintro e w5 ⟨rfl, hb5⟩; have d0 := cell_grow hb5 c0; have d2 := cell_grow hb5 c2; have d3 := cell_grow hb5 c3; have Hb5 := Lib.hid hb5; clear hb5))
  all_goals go_wp2_with fail
  all_goals
    go_ret
    exact ⟨rfl, Hb5.out⟩
theorem fits_chk (hi : isNode f o.id = true) (ht : isNode f o.to = true) : Chk 111 base wk g c o f (fitsB f o) := by
  intro w h
  obtain ⟨c0, c1, c2, c3, c4, c5, c6⟩ := h.cells
  have hl := h.big
  obtain ⟨va, vk, _, _, _, _, _, k5, _, rk⟩ := h.node ht
  obtain ⟨Ak, ck, rfl, hck, hcm⟩ := rk.form
  simp only [maxLen] at hcm
  obtain ⟨t, hto, htl⟩ := node_nat ht
  obtain ⟨d, hid, hdl⟩ := node_nat hi
  have hbit : ∀ pr : Int, (at_ f o.id).parent = pr → (pr = o.to → fitsB f o = decide (0 ≤ o.at_ ∧ o.at_ ≤ ((at_ f o.to).kids.length : Int) - 1)) ∧ (pr ≠ o.to → fitsB f o = decide (0 ≤ o.at_ ∧ o.at_ ≤ ((at_ f o.to).kids.length : Int))) := by
    intro pr hp
    unfold fitsB
    rw [hp]
    exact ⟨fun e => by rw [if_pos e], fun e => by rw [if_neg e, Int.sub_zero]⟩
  have hnode := fun w' (hw' : Wk base wk g c o f w') => node_calls w' hw' hi
  have hk4 := fun w' (hw' : Wk base wk g c o f w') => (hw'.node hi)
  have H := Lib.hid h
  obtain ⟨pr, hpr⟩ : ∃ pr, (at_ f o.id).parent = pr := ⟨_, rfl⟩
  have hbits := hbit pr hpr
  rw [hpr] at hk4
  rw [hto] at c3 k5 hbits
  rw [hid] at hnode hk4 c2
  simp only [Int.toNat_natCast] at k5 hk4
  rw [hto] at hck
  obtain ⟨L, hL⟩ : ∃ L, (at_ f (t : Int)).kids.length = L := ⟨_, rfl⟩
  rw [hL] at k5
  rw [hL] at hbits hck
  have htn : (t : Int) < f.length := by omega
  have hdn : (d : Int) < f.length := by omega
  obtain ⟨bb, hbb⟩ : ∃ bb, fitsB f o = bb := ⟨_, rfl⟩
  rw [hbb] at hbits ⊢
  have Hbits := Lib.hid hbits; have Hnode := Lib.hid hnode; have Hk4 := Lib.hid hk4; have Hto := Lib.hid hto; have Hid2 := Lib.hid hid
  clear hbit hbits hnode hk4 h hi ht rk hto hid hpr hbb hL
  go_enter Tryz.func111, Tryz.ntmps111
  go_wp2_with fail
  go_quiet (fail)
  go_wp2_with fail
  obtain ⟨w1, hw1⟩ : ∃ w1, w.drewN nq = w1 := ⟨_, rfl⟩
  have h1 : Wk base wk g c o f w1 := by rw [← hw1]; exact H.out.below (drewN_below (Below.refl _ _) _)
  have hb1 : Below w.heap.size w w1 := by rw [← hw1]; exact drewN_below (Below.refl _ _) _
  rw [hw1]
  obtain ⟨_, _, _, _, _, _, q4, _, _, _⟩ := Hk4.out w1 h1
  obtain ⟨p0, p1, p2, p3, p4, p5, p6⟩ := h1.cells
  rw [Hto.out] at p3
  have hn2 := fun n => Hnode.out (w1.drewN n) (h1.below (drewN_below (Below.refl _ _) n))
  have Hn2 := Lib.hid hn2; have Hb1 := Lib.hid hb1
  clear hn2 hb1 h1 hw1 c0 c1 c2 c3 c4 c5 c6 k5 H
  go_quiet ((go_at_call 114; exact Calls.quiet_of (Hn2.out _)))
  go_wp2_with fail
  all_goals
    go_ret
    refine ⟨ret_bool ?_, Hb1.out.trans (drewN_below (Below.refl _ _) _ |>.mono Hb1.out.size)⟩
    have hbb := Hbits.out
    by_cases e : pr = (t : Int)
    · rw [hbb.1 e, Bool.eq_iff_iff]
      simp
      first | omega | (simp_all; done) | (simp_all; omega) | trace_state
    · rw [hbb.2 e, Bool.eq_iff_iff]
      simp
      first | omega | (simp_all; done) | (simp_all; omega) | trace_state
end
end Go.Proofs.YthdenkkllpkplaaGreat.Work
end
section
/- apply.lies. -/
namespace Go.Proofs.YthdenkkllpkplaaGreat.Work
open Go Go.RowKit Go.Proofs.YthdenkkllpkplaaGreat.Seq Go.Proofs.YthdenkkllpkplaaGreat.WS Go.Proofs.YthdenkkllpkplaaGreat.FS Go.Proofs.YthdenkkllpkplaaGreat.Mem Go.Proofs.YthdenkkllpkplaaGreat.Rd Go.Proofs.YthdenkkllpkplaaGreat.Shapes Go.Proofs.YthdenkkllpkplaaGreat.Word Go.Proofs.YthdenkkllpkplaaGreat.FFam Go.Proofs.YthdenkkllpkplaaGreat.OwnF
set_option linter.unusedVariables false
set_option linter.unusedSimpArgs false

def idxP {α : Type} (l : List α) (p : α → Bool) : Int := match l.findIdx? p with | some i => i | none => -1
theorem idxP_hit {α : Type} {l : List α} {p : α → Bool} {k : Nat} (hk : k < l.length) (hx : p l[k] = true) (hn : ∀ j (hj : j < l.length), j < k → p l[j] = false) : idxP l p = k := by
  unfold idxP
  have : l.findIdx? p = some k := by
    rw [List.findIdx?_eq_some_iff_getElem]
    exact ⟨hk, hx, fun j hj => by simpa using hn j (by omega) hj⟩
  rw [this]
theorem idxP_none {α : Type} {l : List α} {p : α → Bool} (hn : ∀ j (hj : j < l.length), p l[j] = false) : idxP l p = -1 := by
  unfold idxP
  have : l.findIdx? p = none := by
    rw [List.findIdx?_eq_none_iff]
    intro y hy
    obtain ⟨j, hj, rfl⟩ := List.mem_iff_getElem.1 hy
    exact hn j hj
  rw [this]
theorem idxP_any {α : Type} (l : List α) (p : α → Bool) : decide (0 ≤ idxP l p) = l.any p := by
  unfold idxP
  cases h : l.findIdx? p with
  | none =>
    rw [List.findIdx?_eq_none_iff] at h
    rw [decide_eq_false (by decide)]
    symm
    rw [List.any_eq_false]
    intro y hy
    rw [h y hy]; simp
  | some i =>
    rw [List.findIdx?_eq_some_iff_getElem] at h
    obtain ⟨hi, h1, _⟩ := h
    rw [decide_eq_true (by simp)]
    symm
    rw [List.any_eq_true]
    exact ⟨l[i], List.getElem_mem _, h1⟩
theorem IndexFuncI_calls (w : World) (v : Value) (l : List Int) (h : RdL (intE .i64) 1 w.heap.size w v l) (p : Int → Bool) (bx : Value)
    (hp : ∀ j (hj : j < l.length), Calls Tryz.prog 170 #[.int .i64 l[j], bx] w fun e w' => e = .returned (.bool (p l[j])) ∧ w = w') :
    Calls Tryz.prog 76 #[v, .func (.func 170) #[] #[bx]] w fun e w' => e = .returned (.int .i64 (idxP l p)) ∧ w = w' := by
  obtain ⟨A0, c0, rfl, hl0, hc0, h'⟩ := h.form
  simp only [maxLen] at hc0
  have Hh := Lib.hid h'; have Hp := Lib.hid hp
  clear h h' hp
  go_enter Tryz.func76, Tryz.ntmps76
  go_wp2_with fail
  go_loop [8] (fun i => ∃ k : Nat, k ≤ l.length ∧ i = .int .i64 k ∧ Hid (∀ j (hj : j < l.length), j < k → p l[j] = false)) (fun i => l.length - (intOf i).toNat)
  case atStart => exact ⟨0, Nat.zero_le _, rfl, Lib.hid (fun j _ h => absurd h (Nat.not_lt_zero _))⟩
  case round =>
    obtain ⟨k, hk, rfl, hn⟩ := hrel
    by_cases hlt : k < l.length
    · obtain ⟨b, o, rfl, hb, e1, _⟩ := intE_at Hh.out hlt
      have hc := Hp.out k hlt
      cases hx : p l[k] with
      | true =>
        rw [hx] at hc
        have hr := idxP_hit hlt hx hn.out
        have Hr := Lib.hid hr; have Hc := Lib.hid hc
        clear hr hx hc
        go_wp2_with (go_at_call 170; (with_reducible refine (Hc.out).mono ?_); rintro e w5 ⟨rfl, rfl⟩)
        go_ret
        exact ⟨ret_i Hr.out.symm, rfl⟩
      | false =>
        rw [hx] at hc
        have hn2 : ∀ j (hj : j < l.length), j < k + 1 → p l[j] = false := fun j hj hjk => by
          by_cases e : j = k
          · subst e; exact hx
          · exact hn.out j hj (by omega)
        have Hn2 := Lib.hid hn2; have Hc := Lib.hid hc
        clear hn2 hx hc
        go_wp2_with (go_at_call 170; (with_reducible refine (Hc.out).mono ?_); rintro e w5 ⟨rfl, rfl⟩)
        go_round
        case rel => exact ⟨k + 1, by omega, by go_num, Hn2⟩
        case measure => simp [intOf]; omega
    · have hr := idxP_none (l := l) (p := p) (fun j hj => hn.out j hj (by omega))
      have Hr := Lib.hid hr
      clear hr
      go_wp2_with fail
      go_ret
      exact ⟨ret_i Hr.out.symm, rfl⟩
theorem ContainsFunc_calls (w : World) (v : Value) (l : List Int) (h : RdL (intE .i64) 1 w.heap.size w v l) (p : Int → Bool) (bx : Value)
    (hp : ∀ j (hj : j < l.length), Calls Tryz.prog 170 #[.int .i64 l[j], bx] w fun e w' => e = .returned (.bool (p l[j])) ∧ w = w') :
    Calls Tryz.prog 169 #[v, .func (.func 170) #[] #[bx]] w fun e w' => e = .returned (.bool (l.any p)) ∧ w = w' := by
  have hi := IndexFuncI_calls w v l h p bx hp
  have ha := idxP_any l p
  obtain ⟨A0, c0, rfl, _, _, _⟩ := h.form
  rw [← ha]
  have Hi := Lib.hid hi
  clear hi h ha hp
  go_enter Tryz.func169, Tryz.ntmps169
  go_wp2_with (go_at_call 76; (with_reducible refine (Hi.out).mono ?_); rintro e w5 ⟨rfl, rfl⟩)
  go_ret
  exact ⟨rfl, rfl⟩
section
variable [Avoid] {base wk g c : Nat} {o : Opn} {f : Fo}
theorem lies1_calls (w : World) (h : Wk base wk g c o f w) (bx : Nat) (hb : w.cell? ⟨bx, 0, none⟩ = some (.pointer (some ⟨wk, 0, none⟩))) (k : Int) (hk : isNode f k = true) :
    Calls Tryz.prog 170 #[.int .i64 k, .pointer (some ⟨bx, 0, none⟩)] w fun e w' => e = .returned (.bool (k != o.id && (at_ f k).kind == 1)) ∧ w = w' := by
  obtain ⟨c0, c1, c2, c3, c4, c5, c6⟩ := h.cells
  have hl := h.big
  obtain ⟨va, vk, k0, _, _, _, _, _, _, _⟩ := h.node hk
  obtain ⟨j, rfl, hj⟩ := node_nat hk
  have hjn : (j : Int) < f.length := by omega
  rw [Int.toNat_natCast] at k0
  clear h hk
  generalize (at_ f (j : Int)).kind = kd at *
  by_cases he : (j : Int) = o.id
  · have e1 : ((j : Int) != o.id) = false := by rw [he]; simp
    have e2 : ((j : Int) == o.id) = true := by rw [he]; simp
    rw [e1, Bool.false_and]
    clear he
    go_enter Tryz.func170, Tryz.ntmps170
    go_wp2_with fail
    go_ret
    exact ⟨rfl, rfl⟩
  · have e1 : ((j : Int) != o.id) = true := by rw [bne_iff_ne]; exact he
    have e2 : ((j : Int) == o.id) = false := by rw [beq_eq_false_iff_ne]; exact he
    rw [e1, Bool.true_and]
    clear he
    go_enter Tryz.func170, Tryz.ntmps170
    go_wp2_with fail
    go_ret
    exact ⟨rfl, rfl⟩
end
end Go.Proofs.YthdenkkllpkplaaGreat.Work
end
section
/- apply's attribute, and the two checks by it. -/
namespace Go.Proofs.YthdenkkllpkplaaGreat.Work
open Go Go.RowKit Go.Proofs.YthdenkkllpkplaaGreat.Seq Go.Proofs.YthdenkkllpkplaaGreat.WS Go.Proofs.YthdenkkllpkplaaGreat.FS Go.Proofs.YthdenkkllpkplaaGreat.Mem Go.Proofs.YthdenkkllpkplaaGreat.Rd Go.Proofs.YthdenkkllpkplaaGreat.Shapes Go.Proofs.YthdenkkllpkplaaGreat.Word Go.Proofs.YthdenkkllpkplaaGreat.FFam Go.Proofs.YthdenkkllpkplaaGreat.OwnF Go.Proofs.YthdenkkllpkplaaGreat.FAttr
set_option linter.unusedVariables false
set_option linter.unusedSimpArgs false

theorem IndexFuncA_calls (w : World) (v : Value) (l : List Av) (h : RdL attrE 2 w.heap.size w v l) (p : Av → Bool) (bx : Value)
    (hp : ∀ w', Below w.heap.size w w' → ∀ a : Av, Calls Tryz.prog 175 #[.agg #[.string a.name, .string a.value], bx] w' fun e w'' => e = .returned (.bool (p a)) ∧ Below w'.heap.size w' w'') :
    Calls Tryz.prog 164 #[v, .func (.func 175) #[] #[bx]] w fun e w' => e = .returned (.int .i64 (idxP l p)) ∧ Below w.heap.size w w' := by
  have HR := Lib.hid (fun w' hb => h.below attrE_keeps (w' := w') hb (Nat.le_refl _))
  obtain ⟨A0, c0, rfl, hl0, hc0, _⟩ := h.form
  simp only [maxLen] at hc0
  have Hp := Lib.hid hp
  clear h hp
  go_enter Tryz.func164, Tryz.ntmps164
  go_wp2_with fail
  go_loopw [8] (fun i wr => ∃ k : Nat, k ≤ l.length ∧ i = .int .i64 k ∧ Below w.heap.size w wr ∧ Hid (∀ j (hj : j < l.length), j < k → p l[j] = false)) (fun i _ => l.length - (intOf i).toNat)
  case atStart => exact ⟨0, Nat.zero_le _, rfl, Below.refl _ _, Lib.hid (fun j _ h => absurd h (Nat.not_lt_zero _))⟩
  case round =>
    obtain ⟨k, hk, rfl, hb, hn⟩ := hrel
    by_cases hlt : k < l.length
    · obtain ⟨b, o, rfl, hbl, g0, g1, m0, m1⟩ := attr_at (HR.out _ hb) hlt
      have hc := Hp.out wr hb l[k]
      have Hb := Lib.hid hb
      cases hx : p l[k] with
      | true =>
        rw [hx] at hc
        have hr := idxP_hit hlt hx hn.out
        have Hr := Lib.hid hr; have Hc := Lib.hid hc
        clear hr hx hc hb m0 m1
        generalize l[k] = a at *
        go_wp2_with (go_at_call 175; (with_reducible refine (Hc.out).mono ?_); rintro e w5 ⟨rfl, hb5⟩; have Hb5 := Lib.hid hb5; clear hb5)
        go_ret
        exact ⟨ret_i Hr.out.symm, bthen Hb.out Hb5.out⟩
      | false =>
        rw [hx] at hc
        have hn2 : ∀ j (hj : j < l.length), j < k + 1 → p l[j] = false := fun j hj hjk => by
          by_cases e : j = k
          · subst e; exact hx
          · exact hn.out j hj (by omega)
        have Hn2 := Lib.hid hn2; have Hc := Lib.hid hc
        clear hn2 hx hc hb m0 m1
        generalize l[k] = a at *
        go_wp2_with (go_at_call 175; (with_reducible refine (Hc.out).mono ?_); rintro e w5 ⟨rfl, hb5⟩; have Hb5 := Lib.hid hb5; clear hb5)
        go_roundw
        case rel => exact ⟨k + 1, by omega, by go_num, bthen Hb.out Hb5.out, Hn2⟩
        case measure => simp [intOf]; omega
    · have hr := idxP_none (l := l) (p := p) (fun j hj => hn.out j hj (by omega))
      have Hr := Lib.hid hr; have Hb := Lib.hid hb
      clear hr hb
      go_wp2_with fail
      go_ret
      exact ⟨ret_i Hr.out.symm, Hb.out⟩
section
variable [Avoid] {base wk g c : Nat} {o : Opn} {f : Fo}
end
section
variable {base wk g c : Nat} {o : Opn} {f : Fo}
theorem attr1_calls (w : World) (nm : ByteArray) (bx : Nat) (c5 : w.cell? ⟨wk, 5, none⟩ = some (.string nm)) (hb : w.cell? ⟨bx, 0, none⟩ = some (.pointer (some ⟨wk, 0, none⟩))) (a : Av) :
    Calls Tryz.prog 175 #[.agg #[.string a.name, .string a.value], .pointer (some ⟨bx, 0, none⟩)] w fun e w' => e = .returned (.bool (decide (a.name = nm))) ∧ Below w.heap.size w w' := by
  obtain ⟨an, av⟩ := a
  simp only
  have d5 := fun w' (h : Below w.heap.size w w') => cell_grow h c5
  have d0 := fun w' (h : Below w.heap.size w w') => cell_grow h hb
  go_enter Tryz.func175, Tryz.ntmps175
  go_wp2_with fail
  obtain ⟨w1, hw1⟩ : ∃ w1, w.alloc (.cells #[.string an, .string av] 59) = w1 := ⟨_, rfl⟩
  have hb1 : Below w.heap.size w w1 := by rw [← hw1]; exact (Below.refl _ _).alloc (Nat.le_refl _) _
  have p0 := d0 _ hb1
  have p5 := d5 _ hb1
  have q : w1.cell? ⟨w.heap.size, 0, none⟩ = some (.string an) := by rw [← hw1]; exact (cell_of_row _ _ _ _ _ _ (World.alloc_heap_new _ _)).trans rfl
  have Hb1 := Lib.hid hb1
  rw [hw1]
  clear d0 d5 hb1 hw1 c5 hb
  obtain ⟨B, hB⟩ : ∃ B, B = w.heap.size := ⟨_, rfl⟩
  rw [← hB] at q ⊢
  have HB := Lib.hid hB
  clear hB
  go_quiet (fail)
  go_wp2_with fail
  go_ret
  exact ⟨ret_bool (FSame.str_beq _ _), HB.out ▸ drewN_below (HB.out ▸ Hb1.out) _⟩
end
section
variable [Avoid] {base wk g c : Nat} {o : Opn} {f : Fo}
theorem Wk.c5 {w : World} (h : Wk base wk g c o f w) : w.cell? ⟨wk, 5, none⟩ = some (.string o.name) := h.cells.2.2.2.2.2.1
abbrev nameP (o : Opn) : Av → Bool := fun a => decide (a.name = o.name)
theorem attribute_calls (w : World) (h : Wk base wk g c o f w) (hi : isNode f o.id = true) : Calls Tryz.prog 121 #[.pointer (some ⟨wk, 0, none⟩)] w fun e w' => e = .returned (.int .i64 (idxP (at_ f o.id).attrs (nameP o))) ∧ Below w.heap.size w w' := by
  obtain ⟨va, vk, _, _, _, k3, _, _, ra, _⟩ := h.node hi
  have hn := fun w' (hb : Below w.heap.size w w') => node_calls w' (h.below hb) hi
  have h3 := fun w' (hb : Below w.heap.size w w') => cell_grow hb k3
  have hx := fun w' (hb : Below w.heap.size w w') bx (hbx : w'.cell? ⟨bx, 0, none⟩ = some (.pointer (some ⟨wk, 0, none⟩))) =>
    IndexFuncA_calls w' va _ (ra.keep (fun b _ hl => hb.block b hl) hb.size (fun b x _ => x)).rd (nameP o) (.pointer (some ⟨bx, 0, none⟩)) (fun w'' hb2 a => attr1_calls w'' o.name bx (h.below (bthen hb hb2)).c5 (cell_grow hb2 hbx) a)
  obtain ⟨Aa, ca, rfl, _, _⟩ := ra.form
  have Hn := Lib.hid hn; have H3 := Lib.hid h3; have Hx := Lib.hid hx
  generalize idxP (at_ f o.id).attrs (nameP o) = ix at *
  generalize (at_ f o.id).attrs.length = na at *
  clear hn h3 hx h hi ra k3
  go_enter Tryz.func121, Tryz.ntmps121
  go_wp2_with fail
  obtain ⟨bx, hbx⟩ : ∃ bx, bx = w.heap.size := ⟨_, rfl⟩
  obtain ⟨w1, hw1⟩ : ∃ w1, w.alloc (.cells #[.pointer (some ⟨wk, 0, none⟩)] 107) = w1 := ⟨_, rfl⟩
  have hb1 : Below w.heap.size w w1 := by rw [← hw1]; exact (Below.refl _ _).alloc (Nat.le_refl _) _
  have q : w1.cell? ⟨bx, 0, none⟩ = some (.pointer (some ⟨wk, 0, none⟩)) := by rw [← hw1, hbx]; exact (cell_of_row _ _ _ _ _ _ (World.alloc_heap_new _ _)).trans rfl
  have hn1 := Hn.out _ hb1
  have Hn1 := Lib.hid hn1; have Hb1 := Lib.hid hb1; have Hq := Lib.hid q
  rw [hw1, ← hbx]
  clear hn1 hb1 hw1 hbx Hn
  go_wp2_with (first
    | (go_at_call 114; (with_reducible refine (Hn1.out).mono ?_); rintro e w5 ⟨rfl, n5, rfl⟩; have hb5 := drewN_below Hb1.out n5; have p3 := H3.out _ hb5; have q5 := cell_grow (drewN_below (Below.refl _ w1) n5) Hq.out; have Hb5 := Lib.hid hb5; clear hb5)
    | (go_at_call 164; (with_reducible refine (Hx.out _ Hb5.out bx q5).mono ?_); rintro e w6 ⟨rfl, hb6⟩; have Hb6 := Lib.hid hb6; clear hb6))
  go_ret
  exact ⟨rfl, bthen Hb5.out Hb6.out⟩
end
section
variable {base wk g c : Nat} {o : Opn} {f : Fo}
theorem hasA_any : hasA f o = decide (0 ≤ idxP (at_ f o.id).attrs (nameP o)) := by
  rw [idxP_any]
  unfold hasA findA
  rw [List.findIdx?_isSome]
end
section
variable [Avoid] {base wk g c : Nat} {o : Opn} {f : Fo}
theorem has_chk (hi : isNode f o.id = true) : Chk 123 base wk g c o f (hasA f o) := by
  intro w h
  have ha := attribute_calls w h hi
  rw [hasA_any]
  generalize idxP (at_ f o.id).attrs (nameP o) = ix at *
  have Ha := Lib.hid ha
  clear ha h hi
  go_enter Tryz.func123, Tryz.ntmps123
  go_wp2_with (go_at_call 121; (with_reducible refine (Ha.out).mono ?_); rintro e w5 ⟨rfl, hb5⟩; have Hb5 := Lib.hid hb5; clear hb5)
  go_ret
  exact ⟨rfl, Hb5.out⟩
theorem sets_chk (hi : isNode f o.id = true) : Chk 120 base wk g c o f (hasA f o || decide ((at_ f o.id).attrs.length < 8)) := by
  intro w h
  have ha := attribute_calls w h hi
  obtain ⟨va, vk, _, _, _, k3, _, _, ra, _⟩ := h.node hi
  have hn := fun w' (hb : Below w.heap.size w w') => node_calls w' (h.below hb) hi
  have h3 := fun w' (hb : Below w.heap.size w w') => cell_grow hb k3
  obtain ⟨Aa, ca, rfl, hca, hcm⟩ := ra.form
  simp only [maxLen] at hcm
  rw [hasA_any]
  generalize idxP (at_ f o.id).attrs (nameP o) = ix at *
  have hna : decide ((at_ f o.id).attrs.length < 8) = decide (((at_ f o.id).attrs.length : Int) < 8) := by rw [Bool.eq_iff_iff]; simp; omega
  rw [hna]
  generalize (at_ f o.id).attrs.length = na at *
  have Ha := Lib.hid ha; have Hn := Lib.hid hn; have H3 := Lib.hid h3
  clear ha h hi hn h3 k3 hna ra
  cases hd : decide (0 ≤ ix) with
  | true =>
    go_enter Tryz.func120, Tryz.ntmps120
    go_wp2_with (go_at_call 121; (with_reducible refine (Ha.out).mono ?_); rintro e w5 ⟨rfl, hb5⟩; have Hb5 := Lib.hid hb5; clear hb5)
    go_ret
    exact ⟨by simp, Hb5.out⟩
  | false =>
    go_enter Tryz.func120, Tryz.ntmps120
    go_wp2_with (first
      | (go_at_call 121; (with_reducible refine (Ha.out).mono ?_); rintro e w5 ⟨rfl, hb5⟩; have Hb5 := Lib.hid hb5; clear hb5)
      | (go_at_call 114; (with_reducible refine (Hn.out _ Hb5.out).mono ?_); rintro e w6 ⟨rfl, n6, rfl⟩; have hb6 := drewN_below Hb5.out n6; have p3 := H3.out _ hb6; have Hb6 := Lib.hid hb6; clear hb6))
    go_ret
    exact ⟨by simp, Hb6.out⟩
end
end Go.Proofs.YthdenkkllpkplaaGreat.Work
end
section
/- forest.New. -/
namespace Go.Proofs.YthdenkkllpkplaaGreat.FNew
open Go Go.RowKit Go.Proofs.YthdenkkllpkplaaGreat.Seq Go.Proofs.YthdenkkllpkplaaGreat.WS Go.Proofs.YthdenkkllpkplaaGreat.FS Go.Proofs.YthdenkkllpkplaaGreat.Mem Go.Proofs.YthdenkkllpkplaaGreat.Rd Go.Proofs.YthdenkkllpkplaaGreat.Shapes
set_option linter.unusedVariables false
set_option linter.unusedSimpArgs false
/-- The document alone. -/
def newF : Fo := [{ parent := -1 }]
theorem New_calls (w : World) : Calls Tryz.prog 20 #[] w fun e w' => ∃ v, e = .returned v ∧ RdF w'.heap.size w' v newF ∧ Below w.heap.size w w' := by
  go_enter Tryz.func20, Tryz.ntmps20
  go_wp2_with fail
  go_ret
  refine ⟨_, rfl, ?_, (Below.refl _ _).alloc (Nat.le_refl _) _⟩
  have h0 := World.ownsRow_lit (base := w.heap.size) (e := 55) (size := 6) w #[.int .i64 0, .string ⟨#[]⟩, .string ⟨#[]⟩, .slice none 0 0, .int .i64 (-1), .slice none 0 0] 1 (Nat.le_refl _) (by simp [maxLen]) rfl
  refine RdL.of_own (l := newF) h0 rfl (fun g hg => (h0.lt g hg).2) (fun i hi => ?_)
  have : i = 0 := by have : i < 1 := hi; omega
  subst this
  exact ⟨.slice none 0 0, .slice none 0 0, rfl, RdL.nil, RdL.nil, show (0 : Nat) ≤ maxLen by decide, show (0 : Nat) ≤ maxLen by decide, show (Lit.int .i64 0).wf = true by decide, show (Lit.int .i64 (-1)).wf = true by decide⟩
end Go.Proofs.YthdenkkllpkplaaGreat.FNew
end
section
/- Literals of forests in memory; forest.New, in words. -/
namespace Go.Proofs.YthdenkkllpkplaaGreat.LShown
open Go Go.RowKit Go.Proofs.YthdenkkllpkplaaGreat.Seq Go.Proofs.YthdenkkllpkplaaGreat.WS Go.Proofs.YthdenkkllpkplaaGreat.FS Go.Proofs.YthdenkkllpkplaaGreat.Mem Go.Proofs.YthdenkkllpkplaaGreat.Rd Go.Proofs.YthdenkkllpkplaaGreat.Shapes Go.Proofs.YthdenkkllpkplaaGreat.Word
set_option linter.unusedVariables false
set_option linter.unusedSimpArgs false
theorem lit_kids (w : World) (B b : Nat) (l : List Int) (hb : w.heap[b]? = some (.cells (l.map (Value.int .i64)).toArray 3 (0, 0))) (hB : b < B) (hl : l.length ≤ maxLen) (hw : ∀ x ∈ l, (Lit.int .i64 x).wf = true) : RdL (intE .i64) 1 B w (.slice (some ⟨b, 0, none⟩) l.length l.length) l := by
  refine ⟨_, _, rfl, Nat.le_refl _, hl, fun h0 => ⟨b, 0, rfl, hB, fun i hi => ⟨[.int .i64 l[i]], rfl, fun j u hj => ?_, rfl, hw _ (List.getElem_mem _)⟩⟩⟩
  have hj0 : j = 0 := by have := (List.getElem?_eq_some_iff.1 hj).1; simp at this; omega
  subst hj0
  simp at hj
  subst hj
  rw [cell_of_row _ _ _ _ _ _ hb]
  simp [hi]
theorem six {a b c d e f u : Value} {L : List Value} {j : Nat} (o : Nat) (hj : [a, b, c, d, e, f][j]? = some u) (hL : L.drop o = [a, b, c, d, e, f] ++ L.drop (o + 6)) {k : Nat} (hk : k = o + j := by simp) : L.toArray[k]? = some u := by
  subst hk
  rw [List.getElem?_toArray, ← List.getElem?_drop, hL]
  exact List.getElem?_append_left (List.getElem?_eq_some_iff.1 hj).1 ▸ hj
theorem new1_rd (w : World) (b : Nat) (h : w.heap[b]? = some (.cells #[.int .i64 0, .string ⟨#[]⟩, .string ⟨#[]⟩, .slice none 0 0, .int .i64 (-1), .slice none 0 0] 55 (0, 0))) : RdF w.heap.size w (.slice (some ⟨b, 0, none⟩) 1 1) FNew.newF := by
  have l1 := lt_heap h
  refine ⟨_, 1, rfl, by decide, by decide, fun h0 => ⟨b, 0, rfl, l1, fun i hi => ?_⟩⟩
  have : i = 0 := by have : i < 1 := hi; omega
  subst this
  exact ⟨[.int .i64 0, .string ⟨#[]⟩, .string ⟨#[]⟩, .slice none 0 0, .int .i64 (-1), .slice none 0 0], rfl, fun j u hj => by rw [cell_of_row _ _ _ _ _ _ h]; exact six 0 hj (by simp), _, _, rfl, RdL.nil, RdL.nil, show (0 : Nat) ≤ maxLen by decide, show (0 : Nat) ≤ maxLen by decide, show (Lit.int .i64 0).wf = true by decide, show (Lit.int .i64 (-1)).wf = true by decide⟩
theorem slice_of {w : World} {base : Nat} {e : TypeId} {sz n : Nat} {v : Value} {xs : List Value} (h : w.ownsRow base e sz v n xs) : ∃ A c, v = .slice A n c := by
  rcases h.2 with ⟨rfl, rfl⟩ | ⟨g, cap, cur, rfl, _⟩
  · exact ⟨_, _, rfl⟩
  · exact ⟨_, _, rfl⟩
theorem new1_calls (w : World) : Calls Tryz.prog 20 #[] w fun e w' => ∃ A c, e = .returned (.slice A 1 c) ∧ RdF w'.heap.size w' (.slice A 1 c) FNew.newF ∧ Below w.heap.size w w' := by
  refine (FNew.New_calls w).mono ?_
  rintro e w' ⟨v, rfl, hr, hb⟩
  obtain ⟨A, c, rfl, _, _, hr'⟩ := hr.form
  exact ⟨A, c, rfl, hr', hb⟩
end Go.Proofs.YthdenkkllpkplaaGreat.LShown
end
section
/- (*strings.Replacer).build. -/
namespace Go.Proofs.YthdenkkllpkplaaGreat.ReplB
open Go Go.RowKit Go.Proofs.YthdenkkllpkplaaGreat.Seq Go.Proofs.YthdenkkllpkplaaGreat.Mem Go.Proofs.YthdenkkllpkplaaGreat.Build Go.Proofs.YthdenkkllpkplaaGreat.Repl
set_option linter.unusedVariables false
set_option linter.unusedSimpArgs false

theorem build_table (A : Option Addr) (n c : Nat) (w : World) : (Instr.build 269 #[(1, .slice A n c)]).run Tryz.prog w = .ok (.agg (tabRow (fun _ => .slice none 0 0) (.slice A n c))) w := by kernel_rfl
theorem zero_table (w : World) : (zeroValue 269).run Tryz.prog w = .ok (.agg (tabRow (fun _ => .slice none 0 0) (.slice none 0 0))) w := by kernel_rfl
theorem zero_cells : Tryz.zeroCells269 = tabRow (fun _ => .slice none 0 0) (.slice none 0 0) := by kernel_rfl
theorem tab_size (tb : Nat → Value) (tr : Value) : (tabRow tb tr).size = 257 := by simp [tabRow]
theorem tab_get (tb : Nat → Value) (tr : Value) {c : Nat} (h : c < 256) : (tabRow tb tr)[c]? = some (tb c) := by simp [tabRow, List.getElem?_append_left, h]
theorem tab_last (tb : Nat → Value) (tr : Value) : (tabRow tb tr)[256]? = some tr := by simp [tabRow]
def updT (tb : Nat → Value) (i : Nat) (v : Value) : Nat → Value := fun j => if j = i then v else tb j
theorem tab_set (tb : Nat → Value) (tr v : Value) {c : Nat} (h : c < 256) : (tabRow tb tr).setIfInBounds c v = tabRow (updT tb c v) tr := by
  apply Array.ext_getElem?
  intro j
  rw [Array.getElem?_setIfInBounds]
  rcases Nat.lt_trichotomy j 256 with hj | hj | hj
  · rw [tab_get _ _ hj, tab_get _ _ hj, tab_size]
    unfold updT
    by_cases e : c = j
    · subst e; simp [show c < 257 by omega]
    · rw [if_neg e, if_neg (fun h => e h.symm)]
  · subst hj
    rw [if_neg (by omega), tab_last, tab_last]
  · rw [if_neg (by omega), Array.getElem?_eq_none (by rw [tab_size]; omega), Array.getElem?_eq_none (by rw [tab_size]; omega)]
theorem tab_set_last (tb : Nat → Value) (tr v : Value) : (tabRow tb tr).setIfInBounds 256 v = tabRow tb v := by
  apply Array.ext_getElem?
  intro j
  rw [Array.getElem?_setIfInBounds]
  rcases Nat.lt_trichotomy j 256 with hj | hj | hj
  · rw [tab_get _ _ hj, tab_get _ _ hj, if_neg (by omega)]
  · subst hj
    rw [if_pos rfl, tab_size, tab_last]; simp
  · rw [if_neg (by omega), Array.getElem?_eq_none (by rw [tab_size]; omega), Array.getElem?_eq_none (by rw [tab_size]; omega)]

theorem tab_one {tb : Nat → Value} {tr : Value} (h : ∀ i, (tb i).oneCell' = true) (h2 : tr.oneCell' = true) : (tabRow tb tr).all (·.oneCell') = true := by
  unfold tabRow
  rw [List.all_toArray]
  simp only [List.all_append, List.all_map, Bool.and_eq_true, List.all_eq_true]
  exact ⟨fun x _ => h x, by simp [h2]⟩
theorem store_table (W : World) (b : Nat) (hb : b = W.heap.size) (A : Option Addr) (n c : Nat) : (storeCells ⟨b, 0, none⟩ (Tryz.zeroCells269.toList.set 256 (.slice A n c)) 0).run Tryz.prog (W.alloc (.cells Tryz.zeroCells269 269)) =
    .ok () (W.alloc (.cells (tabRow (fun _ => .slice none 0 0) (.slice A n c)) 269)) := by
  subst hb
  rw [zero_cells, show (tabRow (fun _ => .slice none 0 0) (.slice none 0 0)).toList.set 256 (.slice A n c) = (tabRow (fun _ => .slice none 0 0) (.slice A n c)).toList by have := congrArg Array.toList (tab_set_last (fun _ => .slice none 0 0) (.slice none 0 0) (.slice A n c)); rwa [Array.toList_setIfInBounds] at this]
  exact run_storeCells_new (P := Tryz.prog) W _ _ _ (by rw [tab_size]; kernel_rfl) (by rw [tab_size, tab_size]) (tab_one (fun _ => rfl) rfl)

/-- What may be replaced so: bytes, each once, each by what is no byte. -/
structure Good (ps : Pairs) : Prop where
  two : 2 ≤ ps.length
  few : ps.length ≤ 100
  once : (ps.map (·.1)).Nodup
  long : ∀ p ∈ ps, 2 ≤ p.2.length ∧ p.2.length ≤ 1000
theorem table_new (w : World) (n : Nat) (hn : n ≤ maxLen) : Table (w.heap.size + 1) [] (keysOf []) (fun k => w.heap.size ≤ k ∧ k < ((w.alloc (.cells (madeCells #[.string ⟨#[]⟩] n) 9)).alloc (.cells (tabRow (fun _ => .slice none 0 0) (.slice (some ⟨w.heap.size, 0, none⟩) 0 n)) 269)).heap.size)
    ((w.alloc (.cells (madeCells #[.string ⟨#[]⟩] n) 9)).alloc (.cells (tabRow (fun _ => .slice none 0 0) (.slice (some ⟨w.heap.size, 0, none⟩) 0 n)) 269)) := by
  refine ⟨_, _, heap_new (by simp), ⟨by simp, by simp⟩, fun c => ⟨fun _ => rfl, fun r hr => by cases hr⟩, ?_, fun g hg => ?_⟩
  · have h := World.ownsRow_made (base := 0) (size := 1) (e := 9) w (madeCells #[.string ⟨#[]⟩] n) n (Nat.zero_le _) hn (by simp [madeCells])
    exact own_keep h (fun g hg => Below.heap_alloc _ _ _ (h.lt g hg).2)
  · simp [Value.ownBlock] at hg
    subst hg
    simp; omega
theorem lkd_none {ps : Pairs} {c : UInt8} (h : ∀ p ∈ ps, p.1 ≠ c) : lkd ps c = none := by
  unfold lkd
  rw [Option.map_eq_none_iff, List.find?_eq_none]
  intro p hp
  simpa using h p hp
theorem lkd_fresh {ps : Pairs} (h : (ps.map (·.1)).Nodup) {m : Nat} (hm : m < ps.length) : lkd (ps.drop (m + 1)) ps[m].1 = none := by
  refine lkd_none (fun p hp e => ?_)
  have h1 : (ps.drop m) = ps[m] :: ps.drop (m + 1) := List.drop_eq_getElem_cons hm
  have h2 : ((ps.drop m).map (·.1)).Nodup := by rw [List.map_drop]; exact h.sublist (List.drop_sublist _ _)
  rw [h1, List.map_cons, List.nodup_cons] at h2
  exact h2.1 (by rw [← e]; exact List.mem_map_of_mem hp)
theorem lkd_cons (c : UInt8) (r : List UInt8) (ps : Pairs) (d : UInt8) : lkd ((c, r) :: ps) d = if c = d then some r else lkd ps d := by
  unfold lkd
  rw [List.find?_cons]
  by_cases h : c = d
  · subst h; simp
  · rw [show (((c, r) : UInt8 × List UInt8).1 == d) = false by simpa using h, if_neg h]
theorem table_step {wr w7 : World} {base T : Nat} {ps : Pairs} {ks : List UInt8} {c : UInt8} {r : List UInt8} {s1 s2 : ByteArray} {v7 : Value} {n gc g7 cap7 : Nat} {fz : Nat × Nat} {tb : Nat → Value} {tr : Value}
    (h1 : wr.heap[T]? = some (.cells (tabRow tb tr) 269 (0, 0))) (h2 : base ≤ T)
    (h3 : ∀ d : UInt8, (lkd ps d = none → tb d.toNat = .slice none 0 0) ∧ ∀ r, lkd ps d = some r → ∃ g cap, tb d.toNat = .slice (some ⟨g, 0, none⟩) r.length cap ∧ (base ≤ g ∧ g < wr.heap.size) ∧ g ≠ T ∧ tr.ownBlock ≠ some g ∧ g < wr.heap.size ∧ ∀ j (h : j < r.length), wr.cell? ⟨g, j, none⟩ = some (.int .u8 (r[j].toNat : Int)))
    (h5 : ∀ g, tr.ownBlock = some g → (base ≤ g ∧ g < wr.heap.size) ∧ g ≠ T)
    (hs1 : s1 = ⟨#[c]⟩) (hs2 : s2 = ⟨r.toArray⟩) (hv : v7 = .slice (some ⟨g7, 0, none⟩) n cap7)
    (hg : (wr.alloc (.cells #[.int .u8 c.toNat] 5)).grownBy w7 tr.ownBlock) (hown : w7.ownsRow 0 9 1 v7 (ks.map (fun c => Value.string ⟨#[c]⟩) ++ [Value.string s1]).length (ks.map (fun c => Value.string ⟨#[c]⟩) ++ [Value.string s1]))
    (hat : tr.ownBlock = some g7 ∨ (wr.alloc (.cells #[.int .u8 c.toNat] 5)).heap.size ≤ g7) {w : World} (hw : base = w.heap.size) (hb : Below base w wr) :
    Table T ((c, r) :: ps) (ks ++ [c]) (fun k => base ≤ k ∧ k < ((((w7.setCell ⟨T, 256, none⟩ v7).setCell ⟨T, c.toNat, none⟩ (.slice (some ⟨w7.heap.size, 0, none⟩) s2.size gc)).alloc (.cells (bytesRow s2 gc) 5 fz)).drew).heap.size)
      ((((w7.setCell ⟨T, 256, none⟩ v7).setCell ⟨T, c.toNat, none⟩ (.slice (some ⟨w7.heap.size, 0, none⟩) s2.size gc)).alloc (.cells (bytesRow s2 gc) 5 fz)).drew) ∧
    Below base w ((((w7.setCell ⟨T, 256, none⟩ v7).setCell ⟨T, c.toNat, none⟩ (.slice (some ⟨w7.heap.size, 0, none⟩) s2.size gc)).alloc (.cells (bytesRow s2 gc) 5 fz)).drew) := by
  have hc := UInt8.toNat_lt c
  have hTw := lt_heap h1
  have hsz : (wr.alloc (.cells #[.int .u8 c.toNat] 5)).heap.size = wr.heap.size + 1 := by simp
  have hgs := hg.size
  have hT7 : w7.heap[T]? = some (.cells (tabRow tb tr) 269 (0, 0)) := (hg.block T (by omega) (fun e => (h5 T e.symm).2 rfl)).trans (heap_old h1)
  have hT8 := setCell_row (i := c.toNat) (v := .slice (some ⟨w7.heap.size, 0, none⟩) s2.size gc) (setCell_row (i := 256) (v := v7) hT7)
  rw [tab_set_last, tab_set _ _ _ (by omega)] at hT8
  have h8o : ∀ k, k ≠ T → ((w7.setCell ⟨T, 256, none⟩ v7).setCell ⟨T, c.toNat, none⟩ (.slice (some ⟨w7.heap.size, 0, none⟩) s2.size gc)).heap[k]? = w7.heap[k]? := fun k hk => (heap_set_other hk).trans (heap_set_other hk)
  have h8s : ((w7.setCell ⟨T, 256, none⟩ v7).setCell ⟨T, c.toNat, none⟩ (.slice (some ⟨w7.heap.size, 0, none⟩) s2.size gc)).heap.size = w7.heap.size := by simp [World.setCell]
  generalize hW8 : (w7.setCell ⟨T, 256, none⟩ v7).setCell ⟨T, c.toNat, none⟩ (.slice (some ⟨w7.heap.size, 0, none⟩) s2.size gc) = W8 at *
  have hob8 : Off (fun k => base ≤ k) w7 W8 := by rw [← hW8]; exact (Off.setCell _ _ _ h2).trans (Off.setCell _ _ _ h2)
  have hold : ∀ k, k < W8.heap.size → ((W8.alloc (.cells (bytesRow s2 gc) 5 fz)).drew).heap[k]? = W8.heap[k]? := fun k hk => Below.heap_alloc _ _ _ hk
  have hnew : ((W8.alloc (.cells (bytesRow s2 gc) 5 fz)).drew).heap[w7.heap.size]? = some (.cells (bytesRow s2 gc) 5 fz) := by rw [← h8s]; exact World.alloc_heap_new _ _
  have hsize : ((W8.alloc (.cells (bytesRow s2 gc) 5 fz)).drew).heap.size = w7.heap.size + 1 := by simp [h8s]
  have h7lt : g7 < w7.heap.size := (hown.lt g7 (by rw [hv]; rfl)).2
  refine ⟨⟨updT tb c.toNat (.slice (some ⟨w7.heap.size, 0, none⟩) s2.size gc), v7, (hold T (by omega)).trans hT8, ⟨h2, by rw [hsize]; omega⟩, fun d => ?_, ?_, ?_⟩, ?_⟩
  · rw [lkd_cons]
    by_cases hcd : c = d
    · subst hcd
      rw [if_pos rfl]
      refine ⟨(fun h => by cases h), fun r' hr => ?_⟩
      injection hr with hr
      subst hr
      refine ⟨w7.heap.size, gc, ?_, ⟨?_, ?_⟩, ?_, ?_, ?_, fun j hj => ?_⟩
      · rw [updT, if_pos rfl, hs2]; rfl
      · omega
      · rw [hsize]; omega
      · omega
      · rw [hv]; intro e; injection e with e; have e2 : g7 = w7.heap.size := e; omega
      · rw [hsize]; omega
      · rw [cell_of_row _ _ _ _ _ _ hnew, bytesRow_at _ _ _ (by rw [hs2]; simpa using hj)]
        simp [hs2]
    · rw [if_neg hcd]
      have hne : ¬ d.toNat = c.toNat := fun e => hcd (UInt8.toNat_inj.1 e.symm)
      rw [updT, if_neg hne]
      refine ⟨(h3 d).1, fun r' hr => ?_⟩
      obtain ⟨g, cap, e1, e2, e3, e4, e5, e6⟩ := (h3 d).2 r' hr
      have k1 : ((W8.alloc (.cells (bytesRow s2 gc) 5 fz)).drew).heap[g]? = wr.heap[g]? := (hold g (by omega)).trans ((h8o g e3).trans ((hg.block g (by omega) (fun e => e4 e.symm)).trans (Below.heap_alloc _ _ _ e5)))
      refine ⟨g, cap, e1, ⟨e2.1, by rw [hsize]; omega⟩, e3, ?_, by rw [hsize]; omega, fun j hj => (cell_same k1 j).trans (e6 j hj)⟩
      rw [hv]
      intro e
      injection e with e
      rcases hat with hat | hat
      · exact e4 (by rw [hat]; exact congrArg some e)
      · have : g7 = g := e
        omega
  · have h9 := own_keep hown (w' := (W8.alloc (.cells (bytesRow s2 gc) 5 fz)).drew) (fun g hg' => by
      rw [hv] at hg'
      have e : g7 = g := by injection hg'
      subst e
      refine (hold g7 (by omega)).trans (h8o g7 ?_)
      rcases hat with hat | hat
      · exact (h5 g7 hat).2
      · omega)
    rw [show (ks ++ [c]).map (fun c => Value.string ⟨#[c]⟩) = ks.map (fun c => Value.string ⟨#[c]⟩) ++ [Value.string s1] by rw [List.map_append, hs1]; rfl]
    rw [show (ks ++ [c]).length = (ks.map (fun c => Value.string ⟨#[c]⟩) ++ [Value.string s1]).length by simp]
    exact h9
  · intro g hg'
    rw [hv] at hg'
    have e : g7 = g := by injection hg'
    subst e
    rcases hat with hat | hat
    · have := h5 g7 hat
      exact ⟨⟨this.1.1, by rw [hsize]; omega⟩, this.2⟩
    · exact ⟨⟨by have := hb.size; omega, by rw [hsize]; omega⟩, by omega⟩
  · have b1 : Off (fun k => base ≤ k) wr (wr.alloc (.cells #[.int .u8 c.toNat] 5)) := Off.alloc _ _ _
    have b2 : Off (fun k => base ≤ k) (wr.alloc (.cells #[.int .u8 c.toNat] 5)) w7 := Off.grown hg (fun k hk => (h5 k hk).1.1)
    have b3 := ((b1.trans b2).trans hob8).trans ((Off.alloc _ W8 (.cells (bytesRow s2 gc) 5 fz)).trans (Off.drew _ _))
    exact hb.trans (b3.toBelow (by have := hb.size; omega) (fun k hk => hk))
def BuildPost (w : World) (ps : Pairs) (e : Ending) (w' : World) : Prop :=
  ∃ T F, e = .returned (.iface 270 (.pointer (some ⟨T, 0, none⟩))) ∧ Table T ps (keysOf ps) F w' ∧ (∀ k, F k → w.heap.size ≤ k ∧ k < w'.heap.size) ∧ Below w.heap.size w w'
set_option maxRecDepth 100000 in
set_option maxHeartbeats 4000000 in
theorem build_calls (w : World) (ps : Pairs) (G : Good ps) (rb : Nat) (so : Value) (d1 d2 : Value) (hr : w.heap[rb]? = some (.cells #[d1, d2, .int .u32 0, .nilIface, so] 230 (0, 0))) (hso : w.ownsRow 0 9 1 so (flat ps).length ((flat ps).map Value.string)) :
    Calls Tryz.prog 192 #[.pointer (some ⟨rb, 0, none⟩)] w (BuildPost w ps) := by
  have hl := flat_length ps
  have hg2 := G.two
  have hg3 := G.few
  obtain ⟨g, cp, rfl, hgw, hcell⟩ : ∃ g cp, so = .slice (some ⟨g, 0, none⟩) (2 * ps.length) cp ∧ g < w.heap.size ∧ ∀ i (h : i < (flat ps).length), w.cell? ⟨g, i, none⟩ = some (.string (flat ps)[i]) := by
    have hc := fun gg hgg i s hi => hso.cells (g := gg) hgg i s hi
    have hlt := hso.lt
    rcases hso.2 with ⟨rfl, h0⟩ | ⟨g, cap, cur, rfl, _⟩
    · omega
    · refine ⟨g, cap, by rw [hl], (hlt g rfl).2, fun i hi => ?_⟩
      have := hc g rfl i (.string (flat ps)[i]) (by rw [List.getElem?_map, List.getElem?_eq_getElem hi]; rfl)
      rwa [Addr.add_lit, Nat.zero_add] at this
  have c4 : w.cell? ⟨rb, 4, none⟩ = some (.slice (some ⟨g, 0, none⟩) (2 * ps.length) cp) := (cell_of_row _ _ _ _ _ _ hr).trans rfl
  have hev : ∀ w' : World, (∀ b o, b < w.heap.size → w'.cell? ⟨b, o, none⟩ = w.cell? ⟨b, o, none⟩) → ∀ k (h : k < ps.length), w'.cell? ⟨g, 2 * k, none⟩ = some (.string ⟨#[ps[k].1]⟩) := fun w' hw k h => by
    have h1 := flat_even h
    have h2 : 2 * k < (flat ps).length := by omega
    rw [hw _ _ hgw, hcell _ h2]
    rw [List.getElem?_eq_getElem h2] at h1
    injection h1 with h1
    rw [h1]
  have hod : ∀ w' : World, (∀ b o, b < w.heap.size → w'.cell? ⟨b, o, none⟩ = w.cell? ⟨b, o, none⟩) → ∀ k (h : k < ps.length), w'.cell? ⟨g, 2 * k + 1, none⟩ = some (.string ⟨ps[k].2.toArray⟩) := fun w' hw k h => by
    have h1 := flat_odd h
    have h2 : 2 * k + 1 < (flat ps).length := by omega
    rw [hw _ _ hgw, hcell _ h2]
    rw [List.getElem?_eq_getElem h2] at h1
    injection h1 with h1
    rw [h1]
  have Hev := Lib.hid hev; have Hod := Lib.hid hod; have HG := Lib.hid G
  obtain ⟨L, hL⟩ : ∃ L, L = 2 * ps.length := ⟨_, rfl⟩
  rw [← hL] at c4
  have hne2 : ((L : Int) == 2) = false := by rw [beq_eq_false_iff_ne]; omega
  have hL2 : 4 ≤ L := by omega
  have hL3 : L ≤ 200 := by omega
  have HL := Lib.hid hL
  clear hev hod hcell hso hl G hr hg2 hg3 hL
  go_enter Tryz.func192, Tryz.ntmps192
  go_wp2_with fail
  go_loop [4, 5] (fun a i => ∃ k j : Nat, Hid (j = 2 * k) ∧ j ≤ L ∧ i = .int .i64 j ∧ a = .bool (k == 0)) (fun _ i => L - (intOf i).toNat)
  case atStart => exact ⟨0, 0, Lib.hid rfl, by omega, rfl, rfl⟩
  case round =>
    obtain ⟨k, j, hj, hjL, rfl, rfl⟩ := hrel
    by_cases hlt : j < L
    · have hk : k < ps.length := by have := HL.out; have := hj.out; omega
      have e1 := Hev.out w (fun _ _ _ => rfl) k hk
      have e2 := Hod.out w (fun _ _ _ => rfl) k hk
      rw [← hj.out] at e1 e2
      have hp := HG.out.long ps[k] (List.getElem_mem _)
      have hjL2 : j + 2 ≤ L := by have := HL.out; have := hj.out; omega
      obtain ⟨s1, hs1⟩ : ∃ s1 : ByteArray, s1 = ⟨#[ps[k].1]⟩ := ⟨_, rfl⟩
      obtain ⟨s2, hs2⟩ : ∃ s2 : ByteArray, s2 = ⟨ps[k].2.toArray⟩ := ⟨_, rfl⟩
      rw [← hs1] at e1
      rw [← hs2] at e2
      have z1 : ((s1.size : Int) != 1) = false := by rw [hs1]; rfl
      have z2 : ((s2.size : Int) != 1) = true := by rw [bne_iff_ne, hs2]; have : (⟨ps[k].2.toArray⟩ : ByteArray).size = ps[k].2.length := rfl; omega
      clear hp hs1 hs2 hk
      go_wp2_with fail
      go_round
      case rel => exact ⟨k + 1, j + 2, Lib.hid (by have := hj.out; omega), hjL2, by go_num, rfl⟩
      case measure => simp [intOf]; omega
    · obtain rfl : j = L := by omega
      have hk0 : (k == 0) = false := by rw [beq_eq_false_iff_ne]; have := hj.out; omega
      have hdiv : (j : Int) / 2 = (ps.length : Nat) := by have := HL.out; omega
      have hN := HG.out.few
      have hmk := fun W => run_make_room (P := Tryz.prog) 214 9 (.string ⟨#[]⟩) 16 Tryz.underlying214 info_str rfl .i64 .i64 ps.length (by omega) (by omega) W
      have hst := store_table (w.alloc (.cells (madeCells #[.string ⟨#[]⟩] ps.length) 9)) (w.heap.size + 1) (by simp) (some ⟨w.heap.size, 0, none⟩) 0 ps.length
      go_wp2_with fail
      clear hst hmk hdiv hk0
      obtain ⟨W0, hW0⟩ : ∃ W0, (w.alloc (.cells (madeCells #[.string ⟨#[]⟩] ps.length) 9)).alloc (.cells (tabRow (fun _ => .slice none 0 0) (.slice (some ⟨w.heap.size, 0, none⟩) 0 ps.length)) 269) = W0 := ⟨_, rfl⟩
      have hT0 := table_new w ps.length (by have := HG.out.few; simp only [maxLen]; omega)
      have hb0 : Below w.heap.size w W0 := by rw [← hW0]; exact ((Below.refl _ _).alloc (Nat.le_refl _) _).alloc (by simp) _
      rw [hW0] at hT0
      have HT0 := Lib.hid hT0; have Hb0 := Lib.hid hb0; have HW0 := Lib.hid hW0
      have hlen := HL.out
      rw [hW0]
      clear hT0 hb0 hW0 hj
      go_loopw [12] (fun i wr => ∃ (m : Nat) (z : Int), Hid (z = 2 * m - 2) ∧ m ≤ ps.length ∧ i = .int .i64 z ∧ Table (w.heap.size + 1) (ps.drop m) (keysOf (ps.drop m)) (fun k => w.heap.size ≤ k ∧ k < wr.heap.size) wr ∧ Below w.heap.size w wr) (fun i _ => (intOf i + 2).toNat)
      case atStart => exact ⟨ps.length, _, Lib.hid (by omega), Nat.le_refl _, rfl, by rw [List.drop_length]; exact HT0.out, Hb0.out⟩
      case round =>
        obtain ⟨m, z, hz, hm, rfl, hTb, hbw⟩ := hrel
        clear hlen
        cases m with
        | zero =>
          obtain rfl : z = -2 := by have := hz.out; omega
          have HTb := Lib.hid hTb; have Hbw := Lib.hid hbw
          clear hTb hbw hz hm
          go_wp2_with fail
          go_ret
          exact ⟨_, _, rfl, HTb.out, fun k hk => hk, Hbw.out⟩
        | succ m =>
          obtain ⟨i, hi⟩ : ∃ i : Nat, i = 2 * m := ⟨_, rfl⟩
          obtain rfl : z = i := by have := hz.out; omega
          have hk : m < ps.length := by omega
          have hij : i + 2 ≤ j := by have := HL.out; omega
          have hold := fun b o (h : b < w.heap.size) => hbw.cell (p := ⟨b, o, none⟩) h
          have e1 := Hev.out wr hold m hk
          have e2 := Hod.out wr hold m hk
          rw [← hi] at e1 e2
          obtain ⟨s1, hs1⟩ : ∃ s1 : ByteArray, s1 = ⟨#[ps[m].1]⟩ := ⟨_, rfl⟩
          obtain ⟨s2, hs2⟩ : ∃ s2 : ByteArray, s2 = ⟨ps[m].2.toArray⟩ := ⟨_, rfl⟩
          rw [← hs1] at e1
          rw [← hs2] at e2
          obtain ⟨c, hc⟩ : ∃ c : UInt8, c = ps[m].1 := ⟨_, rfl⟩
          have hix : ∀ W, (Instr.index 9 (.string s1) (.int .i64 0)).run Tryz.prog W = .ok (.int .u8 c.toNat) W := fun W => by rw [hs1, hc]; rfl
          have hc2 : (c.toNat : Int) < 256 := by have := UInt8.toNat_lt c; omega
          have qT : ∀ (w : World) (a : Option Addr) (n c n' c' : Nat), (binOp .eql 162 (.slice a n c) (.slice none n' c')).run Tryz.prog w = .ok (.bool a.isNone) w := fun w a n c n' c' => Lib.run_eql_slice_nil w _ _ a n c n' c' Tryz.underlying162
          have hnone : lkd (ps.drop (m + 1)) c = none := by rw [hc]; exact lkd_fresh HG.out.once hk
          have hTb' := hTb
          obtain ⟨tb, tr, t1, t2, t3, t4, t5⟩ := hTb
          obtain ⟨A3, n3, c3, rfl⟩ := own_form t4
          have tc := (t3 c).1 hnone
          have k1 : wr.cell? ⟨w.heap.size + 1, c.toNat, none⟩ = some (.slice none 0 0) := by rw [cell_of_row _ _ _ _ _ _ t1, tab_get _ _ (by have := UInt8.toNat_lt c; omega), tc]
          have k2 : wr.cell? ⟨w.heap.size + 1, 256, none⟩ = some (.slice A3 n3 c3) := by rw [cell_of_row _ _ _ _ _ _ t1, tab_last]
          have hcv := run_convert_bytes_back (P := Tryz.prog) (wr.alloc (.cells #[.int .u8 c.toNat] 5)) 162 9 5 ⟨wr.heap.size, 0, none⟩ 1 [c] Tryz.underlying162 Tryz.underlying5 Tryz.underlying9 (fun jj hjj => by
            have : jj = 0 := by simp at hjj; omega
            subst this
            simp [Addr.add])
          simp only [List.length_cons, List.length_nil, Nat.zero_add] at hcv
          rw [show (⟨[c].toArray⟩ : ByteArray) = s1 by rw [hs1, hc]] at hcv
          have hcs := fun W => run_bytes_of_string (P := Tryz.prog) W 9 162 5 s2 Tryz.underlying9 Tryz.underlying162 Tryz.underlying5
          have t4' : (wr.alloc (.cells #[.int .u8 c.toNat] 5)).ownsRow 0 9 1 (.slice A3 n3 c3) ((keysOf (ps.drop (m + 1))).map (fun c => Value.string ⟨#[c]⟩)).length ((keysOf (ps.drop (m + 1))).map (fun c => Value.string ⟨#[c]⟩)) := by rw [List.length_map]; exact own_keep t4 (fun g hg => Below.heap_alloc _ _ _ (t4.lt g hg).2)
          have HT4 := Lib.hid t4'; clear t4'
          have hkl : (keysOf (ps.drop (m + 1))).length ≤ 100 := by unfold keysOf; simp; have := HG.out.few; omega
          have HTb := Lib.hid hTb'; have Hbw := Lib.hid hbw; have Hs1 := Lib.hid hs1; have Hs2 := Lib.hid hs2; have Hc := Lib.hid hc; have Hi := Lib.hid hi
          have T1 := Lib.hid t1; have T3 := Lib.hid t3; have T4 := Lib.hid t4; have T5 := Lib.hid t5
          have hc256 : ¬ c.toNat = 256 := by have := UInt8.toNat_lt c; omega
          have hc257 : ¬ 256 = c.toNat := by omega
          have Htc := Lib.hid tc
          clear hTb' hbw hs1 hs2 hc hi hz t1 t2 t3 t4 t5 tc hnone hold
          go_wp2_with (at_builtin; go_loud (refine pl_append (wr.alloc (.cells #[.int .u8 c.toNat] 5)) 0 rfl _ _ 214 9 (.string ⟨#[]⟩) 16 rfl Tryz.underlying214 info_str rfl (.slice A3 n3 c3) ((keysOf (ps.drop (m + 1))).map (fun c => Value.string ⟨#[c]⟩)) (.string s1) rfl (by simp [Act.eval]) rfl HT4.out (Nat.zero_le _) (by rw [List.length_map]; omega) (by rw [List.length_map]; simp only [maxLen]; omega) ?_; rintro v7 w7 hown7 hgrow7 ⟨g7, cap7, rfl, hat7⟩; have h7 := (hgrow7.block (w.heap.size + 1) (Nat.lt_of_lt_of_le (lt_heap T1.out) (by simp)) (fun e => (T5.out _ e.symm).2 rfl)).trans (heap_old T1.out); have k7 : w7.cell? ⟨w.heap.size + 1, 256, none⟩ = some (.slice A3 n3 c3) := (by rw [cell_of_row _ _ _ _ _ _ h7, tab_last]); have l7 := lt_heap h7; have k7f := free_of h7 256; have k8 : w7.cell? ⟨w.heap.size + 1, c.toNat, none⟩ = some (.slice none 0 0) := (by rw [cell_of_row _ _ _ _ _ _ h7, tab_get _ _ (by have := UInt8.toNat_lt c; omega), Htc.out]); have k8f := free_of h7 c.toNat; have H7 := Lib.hid h7; clear h7; have Hown7 := Lib.hid hown7; have Hgrow7 := Lib.hid hgrow7; have Hat7 := Lib.hid hat7; clear hown7 hgrow7 hat7))
          go_roundw
          case rel =>
            have hdr : ps.drop m = (c, ps[m].2) :: ps.drop (m + 1) := by rw [List.drop_eq_getElem_cons hk, Hc.out]
            have hks : keysOf (ps.drop m) = keysOf (ps.drop (m + 1)) ++ [c] := by rw [hdr]; unfold keysOf; rw [List.map_cons, List.reverse_cons]
            refine ⟨m, _, Lib.hid rfl, by omega, by have := Hi.out; go_num, ?_, ?_⟩
            · rw [hks, hdr]
              exact (table_step T1.out (by omega) T3.out T5.out (c := c) (s1 := s1) (by rw [Hs1.out, Hc.out]) Hs2.out rfl Hgrow7.out (by have h := Hown7.out; rw [List.length_map] at h; exact h) Hat7.out rfl Hbw.out).1
            · exact (table_step T1.out (by omega) T3.out T5.out (c := c) (s1 := s1) (by rw [Hs1.out, Hc.out]) Hs2.out rfl Hgrow7.out (by have h := Hown7.out; rw [List.length_map] at h; exact h) Hat7.out rfl Hbw.out).2
          case measure => simp [intOf]; omega
end Go.Proofs.YthdenkkllpkplaaGreat.ReplB
end
section
/- The kit's library contracts, laid at this program in plain words (wip/shelf.py). -/
namespace Go.Proofs
open Go.Shelf
def Tryz.lays138_ren : Go.Shelf.Ren := ⟨fun | 138 => 275 | 195 => 276 | 218 => 277 | 143 => 278 | 219 => 279 | 217 => 197 | 225 => 224 | 224 => 223 | 267 => 280 | 266 => 211 | 314 => 281 | n => n, fun | 9 => 9 | 3 => 3 | 4 => 4 | 5 => 5 | 0 => 0 | 46 => 293 | 146 => 336 | 51 => 218 | n => n, fun | 1 => 0 | n => n⟩
theorem Tryz.lays138 : Go.Proofs.Lays.n138 Tryz.prog Tryz.lays138_ren := {
  mixed := by kernel_rfl
  f138 := Tryz.func275.trans (congrArg some (by kernel_rfl))
  f143 := Tryz.func278.trans (congrArg some (by kernel_rfl))
  f195 := Tryz.func276.trans (congrArg some (by kernel_rfl))
  f217 := Tryz.func197.trans (congrArg some (by kernel_rfl))
  f218 := Tryz.func277.trans (congrArg some (by kernel_rfl))
  f219 := Tryz.func279.trans (congrArg some (by kernel_rfl))
  f224 := Tryz.func223.trans (congrArg some (by kernel_rfl))
  f225 := Tryz.func224.trans (congrArg some (by kernel_rfl))
  f266 := Tryz.func211.trans (congrArg some (by kernel_rfl))
  f267 := Tryz.func280.trans (congrArg some (by kernel_rfl))
  f314 := Tryz.func281.trans (congrArg some (by kernel_rfl))
  t0 := Tryz.underlying0
  a0 := Tryz.isAgg0
  z0 := Tryz.sizeOf0
  v0 := Tryz.zeroValue0
  t3 := Tryz.underlying3
  a3 := Tryz.isAgg3
  z3 := Tryz.sizeOf3
  v3 := Tryz.zeroValue3
  t4 := Tryz.underlying4
  a4 := Tryz.isAgg4
  z4 := Tryz.sizeOf4
  v4 := Tryz.zeroValue4
  t5 := Tryz.underlying5
  a5 := Tryz.isAgg5
  z5 := Tryz.sizeOf5
  v5 := Tryz.zeroValue5
  t9 := Tryz.underlying9
  a9 := Tryz.isAgg9
  z9 := Tryz.sizeOf9
  v9 := Tryz.zeroValue9
  t46 := Tryz.underlying293
  a46 := Tryz.isAgg293
  z46 := Tryz.sizeOf293
  v46 := Tryz.zeroValue293
  t51 := Tryz.underlying218
  a51 := Tryz.isAgg218
  z51 := Tryz.sizeOf218
  v51 := Tryz.zeroValue218
  t146 := Tryz.underlying336
  a146 := Tryz.isAgg336
  z146 := Tryz.sizeOf336
  v146 := Tryz.zeroValue336
  g1 := by kernel_rfl }
open Go.RowKit Go.Lib in
theorem Tryz.strings_Count_one (s : ByteArray) (c : UInt8) (w : World) :
    Calls Tryz.prog 275 #[.string s, .string ⟨#[c]⟩] w fun e w' => e = .returned (.int .i64 (Lib.countByte s.data.toList c)) ∧ w' = w := Any.strings_Count_one Tryz.lays138 s c w
end Go.Proofs
end
