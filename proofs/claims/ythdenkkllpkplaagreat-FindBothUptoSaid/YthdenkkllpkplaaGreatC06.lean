/- Joined by a program: FMay, FBelow, OwnG, FSame, AOpMay, ShelfB. -/
import Derived.Deep.Cut
import Derived.Shelf.Strings.Count
import Derived.Shelf.Strings.Builder1
import Derived.Shelf.Strings.BuilderK
import Derived.Test.YthdenkkllpkplaaGreatProg
import Derived.KernelRfl
import Derived.Test.YthdenkkllpkplaaGreatC05
import Derived.Test.YthdenkkllpkplaaGreatC01
import Derived.Test.YthdenkkllpkplaaGreatC02
section
/- forest.May. -/
namespace Go.Proofs.YthdenkkllpkplaaGreat.FMay
open Go Go.RowKit Go.Proofs.YthdenkkllpkplaaGreat.Seq Go.Proofs.YthdenkkllpkplaaGreat.WS Go.Proofs.YthdenkkllpkplaaGreat.FS Go.Proofs.YthdenkkllpkplaaGreat.WordIt Go.Proofs.YthdenkkllpkplaaGreat.Mem Go.Proofs.YthdenkkllpkplaaGreat.Rd Go.Proofs.YthdenkkllpkplaaGreat.Word Go.Proofs.YthdenkkllpkplaaGreat.WordHas Go.Proofs.YthdenkkllpkplaaGreat.Shapes Go.Proofs.YthdenkkllpkplaaGreat.FFam
set_option linter.unusedVariables false
set_option linter.unusedSimpArgs false

theorem family_parents {f : Fo} (h : familyB f = true) (i : Nat) (hi : i < f.length) : -1 ≤ (at_ f i).parent ∧ (at_ f i).parent < f.length := by
  unfold familyB at h
  rw [Bool.and_eq_true, List.all_eq_true, List.all_eq_true] at h
  have := h.2 i (List.mem_range.2 hi)
  unfold parentB at this
  simp only [Bool.and_eq_true, decide_eq_true_eq] at this
  exact ⟨this.1.1, this.1.2⟩
/-- Node by node. -/
def nodeB (f : Fo) (id : Nat) : Bool := plainB (at_ f id) && (decide ((at_ f id).kind = 0) == decide (id = 0))
theorem may_false_node {f : Fo} {i : Nat} (hi : i < f.length) (h : nodeB f i = false) : mayB f = false := by
  have : (List.range f.length).all (fun id => plainB (at_ f id) && (decide ((at_ f id).kind = 0) == decide (id = 0))) = false := by
    rw [List.all_eq_false]
    exact ⟨i, List.mem_range.2 hi, by rw [show (plainB (at_ f i) && (decide ((at_ f i).kind = 0) == decide (i = 0))) = false from h]; simp⟩
  unfold mayB
  rw [this]; simp
theorem may_rest {f : Fo} (h1 : 1 ≤ f.length) (h2 : f.length ≤ 60) (h3 : (at_ f 0).parent = -1) (h : ∀ i, i < f.length → nodeB f i = true) : mayB f = (familyB f && climbsB f) := by
  unfold mayB
  rw [decide_eq_true h1, decide_eq_true h2, decide_eq_true h3, List.all_eq_true.2 (fun i hi => by rw [List.mem_range] at hi; exact h i hi)]
  simp
theorem may_false_len {f : Fo} (h : ¬ (1 ≤ f.length ∧ f.length ≤ 60)) : mayB f = false := by
  unfold mayB
  by_cases h1 : 1 ≤ f.length
  · rw [decide_eq_false (show ¬ f.length ≤ 60 from fun h2 => h ⟨h1, h2⟩)]; simp
  · rw [decide_eq_false h1]; simp
theorem may_false_par {f : Fo} (h : (at_ f 0).parent ≠ -1) : mayB f = false := by
  unfold mayB
  rw [decide_eq_false h]; simp
set_option maxRecDepth 100000 in
set_option maxHeartbeats 4000000 in
theorem May_calls (w : World) (v : Value) (f : Fo) (h : RdF w.heap.size w v f) (hkm : ∀ n ∈ f, n.kids.length ≤ 1000) :
    Calls Tryz.prog 27 #[v] w fun e w' => e = .returned (.bool (mayB f)) ∧ Below w.heap.size w w' := by
  have HR := Lib.hid (fun w' hb => h.below nodeE_keeps (w' := w') hb (Nat.le_refl _))
  have hRW := h
  obtain ⟨A0, c0, rfl, hl0, hc0, _⟩ := h.form
  have hc0' := hc0
  simp only [maxLen] at hc0
  by_cases hlen : 1 ≤ f.length ∧ f.length ≤ 60
  case neg =>
    have hm := may_false_len hlen
    have Hm := Lib.hid hm; clear hm h hRW
    by_cases h0 : f.length = 0
    · rw [h0] at *
      clear hlen
      go_enter Tryz.func27, Tryz.ntmps27
      go_wp2_with fail
      go_ret
      exact ⟨ret_bool Hm.out.symm, Below.refl _ _⟩
    · have hn0 : ((f.length : Int) == 0) = false := by rw [beq_eq_false_iff_ne]; omega
      have h60 : 60 < f.length := by omega
      clear hlen
      go_enter Tryz.func27, Tryz.ntmps27
      go_wp2_with fail
      go_ret
      exact ⟨ret_bool Hm.out.symm, Below.refl _ _⟩
  case pos =>
    obtain ⟨hlen1, hlen2⟩ := hlen
    have hn0 : ((f.length : Int) == 0) = false := by rw [beq_eq_false_iff_ne]; omega
    obtain ⟨b, o, _, _, _, _, rfl, hbB, _, _, _, _, n4, _⟩ := node_at hRW (show 0 < f.length by omega)
    rw [← at_nat (show 0 < f.length by omega), Nat.zero_mul, Nat.add_zero] at n4
    have hm0 := may_false_par (f := f)
    have hmr := may_rest hlen1 hlen2
    have e1 : ((at_ f (0 : Nat)).parent == -1) = decide ((at_ f (0 : Nat)).parent = -1) := rfl
    have e2 : ((at_ f (0 : Nat)).parent != -1) = !decide ((at_ f (0 : Nat)).parent = -1) := rfl
    have Hkm := Lib.hid hkm
    clear h hRW hkm
    by_cases hp0 : (at_ f (0 : Nat)).parent = -1
    case neg =>
      have Hm := Lib.hid (hm0 hp0)
      rw [decide_eq_false hp0] at e1 e2
      simp only [Bool.not_false] at e2
      generalize (at_ f (0 : Nat)).parent = pr at *
      clear hm0 hmr hp0
      go_enter Tryz.func27, Tryz.ntmps27
      go_wp2_with fail
      go_ret
      exact ⟨ret_bool Hm.out.symm, Below.refl _ _⟩
    case pos =>
      have hmr := hmr hp0
      rw [hp0] at n4
      have Hmr := Lib.hid hmr
      clear hm0 hmr hp0 e1 e2
      go_enter Tryz.func27, Tryz.ntmps27
      go_wp2_with fail
      clear n4
      go_loopw [22] (fun i wr => ∃ k : Nat, k ≤ f.length ∧ i = .int .i64 k ∧ Below w.heap.size w wr ∧ ∀ j, j < k → nodeB f j = true) (fun i _ => f.length - (intOf i).toNat)
      case atStart => exact ⟨0, Nat.zero_le _, rfl, Below.refl _ _, fun j hj => by omega⟩
      case round =>
        obtain ⟨k, hk, rfl, h1, h2⟩ := hrel
        by_cases hlt : k < f.length
        · obtain ⟨b', o', Aa, ca, Ak, ck, he, hbl, g0, g1, g2, g3, g4, g5, ra, rk, la, lca, lk, lck, m1, m2, m3, m4⟩ := node_at (HR.out _ h1) hlt
          simp only [Option.some.injEq, Addr.mk.injEq, and_true] at he
          obtain ⟨rfl, rfl⟩ := he
          have hbx := h1.alloc h1.size (.cells #[.int .i64 f[k].kind, .string f[k].name, .string f[k].text, .slice Aa f[k].attrs.length ca, .int .i64 f[k].parent, .slice Ak f[k].kids.length ck] 55)
          have hpl := FPlain.plain_calls (wr.alloc (.cells #[.int .i64 f[k].kind, .string f[k].name, .string f[k].text, .slice Aa f[k].attrs.length ca, .int .i64 f[k].parent, .slice Ak f[k].kids.length ck] 55)) f[k].kind f[k].parent f[k].name f[k].text f[k].attrs f[k].kids _ _
            ((ra.keep attrE_keeps ((Below.refl w.heap.size wr).alloc h1.size _) (Nat.le_refl _)).mono attrE_keeps (Nat.le_trans h1.size (by simp))) ((rk.keep (intE_keeps _) ((Below.refl w.heap.size wr).alloc h1.size _) (Nat.le_refl _)).mono (intE_keeps _) (Nat.le_trans h1.size (by simp)))
          have hbc : (wr.alloc (.cells #[.int .i64 f[k].kind, .string f[k].name, .string f[k].text, .slice Aa f[k].attrs.length ca, .int .i64 f[k].parent, .slice Ak f[k].kids.length ck] 55)).cell? ⟨wr.heap.size, 0, none⟩ = some (.int .i64 f[k].kind) := by rw [cell_of_row _ _ _ _ 55 (0, 0) (heap_alloc_new wr _)]; rfl
          have hnd : nodeB f k = (plainB f[k] && (decide (f[k].kind = 0) == decide (k = 0))) := by unfold nodeB; rw [at_nat hlt]
          have hbad : nodeB f k = false → mayB f = false := may_false_node hlt
          have hgood : nodeB f k = true → ∀ j, j < k + 1 → nodeB f j = true := fun h j hj => by
            by_cases e : j = k
            · subst e; exact h
            · exact h2 j (by omega)
          rw [hnd] at hbad hgood
          have ek : (f[k].kind == 0) = decide (f[k].kind = 0) := rfl
          have ez : ((k : Int) == 0) = decide (k = 0) := by rw [Bool.eq_iff_iff]; simp
          have Hbc := Lib.hid hbc; have Hbx := Lib.hid hbx; have Hpl := Lib.hid hpl; have H1 := Lib.hid h1; have H2 := Lib.hid h2
          have hpe : plainB f[k] = plainB ⟨f[k].kind, f[k].name, f[k].text, f[k].attrs, f[k].parent, f[k].kids⟩ := rfl
          rw [hpe] at hbad hgood
          clear h1 h2 ra rk hbx hpl hbc m1 m2 m3 m4 hnd hpe
          generalize f[k] = nd at *
          obtain ⟨kd, nm, tx, at_', pr, kd_⟩ := nd
          simp only at *
          generalize hpb : plainB ⟨kd, nm, tx, at_', pr, kd_⟩ = pb at *
          generalize decide (kd = 0) = b0 at *
          generalize decide (k = 0) = b1 at *
          cases pb
          · have Hff := Lib.hid (hbad rfl)
            clear hbad hgood hpb
            go_wp2_with (go_at_call 69; with_reducible refine (Hpl.out).mono ?_; rintro e w5 ⟨rfl, hb5⟩; have Hb5 := Lib.hid hb5; clear hb5)
            go_ret
            exact ⟨ret_bool Hff.out.symm, bthen Hbx.out Hb5.out⟩
          · cases b0 <;> cases b1
            case' false.true => have Hff := Lib.hid (hbad rfl)
            case' true.false => have Hff := Lib.hid (hbad rfl)
            case' false.false => have Hgg := Lib.hid (hgood rfl)
            case' true.true => have Hgg := Lib.hid (hgood rfl)
            all_goals
              clear hbad hgood hpb
              go_wp2_with (go_at_call 69; with_reducible refine (Hpl.out).mono ?_; rintro e w5 ⟨rfl, hb5⟩; have gb := cell_grow hb5 Hbc.out; have Hb5 := Lib.hid hb5; clear hb5)
            all_goals first
              | (go_ret; exact ⟨ret_bool Hff.out.symm, bthen Hbx.out Hb5.out⟩)
              | (go_roundw; (case rel => exact ⟨k + 1, by omega, by go_num, bthen Hbx.out Hb5.out, Hgg.out⟩); (case measure => simp [intOf]; omega))
        · obtain rfl : k = f.length := by omega
          have hmv := Hmr.out h2
          have H1 := Lib.hid h1
          have hfm := fun w' hb => FFam.family_calls w' (.slice (some ⟨b, o, none⟩) f.length c0) f ((HR.out w' hb).mono nodeE_keeps hb.size) hlen2 Hkm.out
          have Hfm := Lib.hid hfm
          cases hfb : familyB f with
          | false =>
            rw [hfb, Bool.false_and] at hmv
            rw [hfb] at Hfm
            have Hmv := Lib.hid hmv
            clear h1 h2 hmv hfm hfb
            go_wp2_with (go_at_call 70; with_reducible refine (Hfm.out _ H1.out).mono ?_; rintro e w5 ⟨rfl, hb5⟩; have Hb5 := Lib.hid hb5; clear hb5)
            go_ret
            exact ⟨ret_bool Hmv.out.symm, bthen H1.out Hb5.out⟩
          | true =>
            have hcm := fun w' hb => FClimbs.climbs_calls w' (.slice (some ⟨b, o, none⟩) f.length c0) f ((HR.out w' hb).mono nodeE_keeps hb.size) hlen2 (family_parents hfb)
            rw [hfb, Bool.true_and] at hmv
            rw [hfb] at Hfm
            generalize climbsB f = cb at *
            have Hcm := Lib.hid hcm
            have Hmv := Lib.hid hmv
            clear h1 h2 hmv hfm hfb hcm
            go_wp2_with (first
              | (go_at_call 70; with_reducible refine (Hfm.out _ H1.out).mono ?_; rintro e w5 ⟨rfl, hb5⟩; have Hb5 := Lib.hid hb5; clear hb5)
              | (go_at_call 71; with_reducible refine (Hcm.out _ (bthen H1.out Hb5.out)).mono ?_; rintro e w6 ⟨rfl, hb6⟩; have Hb6 := Lib.hid hb6; clear hb6))
            go_ret
            exact ⟨ret_bool Hmv.out.symm, bthen (bthen H1.out Hb5.out) Hb6.out⟩
end Go.Proofs.YthdenkkllpkplaaGreat.FMay
end
section
/- forest.Below, Tops, New. -/
namespace Go.Proofs.YthdenkkllpkplaaGreat.FBelow
open Go Go.RowKit Go.Proofs.YthdenkkllpkplaaGreat.Seq Go.Proofs.YthdenkkllpkplaaGreat.WS Go.Proofs.YthdenkkllpkplaaGreat.FS Go.Proofs.YthdenkkllpkplaaGreat.WordIt Go.Proofs.YthdenkkllpkplaaGreat.Mem Go.Proofs.YthdenkkllpkplaaGreat.Rd Go.Proofs.YthdenkkllpkplaaGreat.Word Go.Proofs.YthdenkkllpkplaaGreat.WordHas Go.Proofs.YthdenkkllpkplaaGreat.Shapes Go.Proofs.YthdenkkllpkplaaGreat.FFam Go.Proofs.YthdenkkllpkplaaGreat.FMay
set_option linter.unusedVariables false
set_option linter.unusedSimpArgs false

set_option maxRecDepth 100000 in
set_option maxHeartbeats 4000000 in
theorem Below_calls (w : World) (v : Value) (f : Fo) (top id : Int) (h : RdF w.heap.size w v f) (hkm : ∀ n ∈ f, n.kids.length ≤ 1000) :
    Calls Tryz.prog 49 #[v, .int .i64 top, .int .i64 id] w fun e w' => e = .returned (.bool (belowB f top id)) ∧ Below w.heap.size w w' := by
  have HR := Lib.hid (fun w' hb => h.below nodeE_keeps (w' := w') hb (Nat.le_refl _))
  have hmy := May_calls w v f h hkm
  obtain ⟨A0, c0, rfl, hl0, hc0, _⟩ := h.form
  simp only [maxLen] at hc0
  clear h
  cases hm : mayB f with
  | false =>
    have hb : belowB f top id = false := by unfold belowB; rw [hm]; simp
    rw [hm] at hmy
    have Hmy := Lib.hid hmy; have Hb := Lib.hid hb
    clear hmy hb hm
    go_enter Tryz.func49, Tryz.ntmps49
    go_wp2_with (go_at_call 27; with_reducible refine (Hmy.out).mono ?_; rintro e w5 ⟨rfl, hb5⟩; have Hb5 := Lib.hid hb5; clear hb5)
    go_ret
    exact ⟨ret_bool Hb.out.symm, Hb5.out⟩
  | true =>
    rw [hm] at hmy
    have Hmy := Lib.hid hmy; clear hmy
    have hlen := (may_len hm).2
    by_cases hin : 0 ≤ id ∧ id < f.length
    case neg =>
      have hb : belowB f top id = false := by unfold belowB; rw [show isNode f id = false by rw [← Bool.not_eq_true, isNode_iff]; exact hin]; simp
      have Hb := Lib.hid hb
      clear hb hm
      by_cases h0 : id < 0
      · clear hin
        go_enter Tryz.func49, Tryz.ntmps49
        go_wp2_with (go_at_call 27; with_reducible refine (Hmy.out).mono ?_; rintro e w5 ⟨rfl, hb5⟩; have Hb5 := Lib.hid hb5; clear hb5)
        go_ret
        exact ⟨ret_bool Hb.out.symm, Hb5.out⟩
      · have h1 : (f.length : Int) ≤ id := by omega
        clear hin
        go_enter Tryz.func49, Tryz.ntmps49
        go_wp2_with (go_at_call 27; with_reducible refine (Hmy.out).mono ?_; rintro e w5 ⟨rfl, hb5⟩; have Hb5 := Lib.hid hb5; clear hb5)
        go_ret
        exact ⟨ret_bool Hb.out.symm, Hb5.out⟩
    case pos =>
      obtain ⟨hi0, hi1⟩ := hin
      have hnode : isNode f id = true := (isNode_iff f id).2 ⟨hi0, hi1⟩
      obtain ⟨N, hN⟩ : ∃ N, Up f N id := by
        obtain ⟨n, hn⟩ := may_climbs hm id.toNat (by omega)
        exact ⟨n, by rwa [Int.toNat_of_nonneg hi0] at hn⟩
      have hpar := family_parents (may_family hm)
      have HN := Lib.hid hN; have Hm := Lib.hid hm; have Hnode := Lib.hid hnode; have Hpar := Lib.hid hpar
      clear hN hm hnode hpar
      go_enter Tryz.func49, Tryz.ntmps49
      go_wp2_with (go_at_call 27; with_reducible refine (Hmy.out).mono ?_; rintro e w5 ⟨rfl, hb5⟩; have Hb5 := Lib.hid hb5; clear hb5)
      go_loopg [2] N (fun g i wx => ∃ j : Int, i = .int .i64 j ∧ Up f g j ∧ -1 ≤ j ∧ j < f.length ∧ (belowP f top id ↔ belowP f top j) ∧ wx = w5)
      case atStart => exact ⟨id, rfl, HN.out, by omega, hi1, Iff.rfl, rfl⟩
      case round =>
        obtain ⟨j, rfl, hup, hj0, hj1, hiff, rfl⟩ := hrel
        by_cases htop : j = top
        · subst htop
          have hres : belowB f j id = decide (0 ≤ j) := below_eq Hm.out Hnode.out (by rw [hiff, decide_eq_true_eq]; exact ⟨fun h => h.1, fun h => ⟨h, 0, rfl⟩⟩)
          have Hres := Lib.hid hres
          have hne : (j != j) = false := by simp
          clear hup hiff hres
          go_wp2_with fail
          go_ret
          refine ⟨ret_bool ?_, Hb5.out⟩
          rw [Hres.out, Bool.eq_iff_iff]
          simp
          omega
        · have hne : (j != top) = true := by rw [bne_iff_ne]; exact htop
          have hne2 : (j == top) = false := by rw [beq_eq_false_iff_ne]; exact htop
          by_cases h1 : j = -1
          · subst h1
            have hres : belowB f top id = false := below_eq Hm.out Hnode.out (by rw [hiff]; exact ⟨fun h => absurd h (belowP_end htop), fun h => by cases h⟩)
            have Hres := Lib.hid hres
            clear hup hiff hres
            go_wp2_with fail
            go_ret
            exact ⟨ret_bool Hres.out.symm, Hb5.out⟩
          · obtain ⟨x, rfl⟩ : ∃ x : Nat, j = x := ⟨j.toNat, by omega⟩
            have hx : x < f.length := by omega
            have hx1 : ((x : Int) == -1) = false := by rw [beq_eq_false_iff_ne]; omega
            obtain ⟨g, rfl⟩ : ∃ g, gk = g + 1 := by
              cases gk with
              | zero => have : (x : Int) < 0 := hup; omega
              | succ g => exact ⟨g, rfl⟩
            obtain ⟨b', o', _, _, _, _, rfl, _, _, _, _, _, n4, _⟩ := node_at (HR.out _ Hb5.out) hx
            rw [← at_nat hx] at n4
            have hst := belowP_step (f := f) (top := top) (j := x) (by omega) htop
            have hp := Hpar.out x hx
            have hup2 := hup.2
            rw [← hiff] at hst
            generalize (at_ f x).parent = pr at *
            have Hst := Lib.hid hst; have Hup := Lib.hid hup2
            clear hup hiff hst hup2
            go_wp2_with fail
            go_roundg g
            case measure => omega
            case rel => exact ⟨pr, rfl, Hup.out, hp.1, hp.2, Hst.out, rfl⟩
end Go.Proofs.YthdenkkllpkplaaGreat.FBelow
end
section
/- Rows of the call's own that hold ints. -/
namespace Go.Proofs.YthdenkkllpkplaaGreat.FTops
open Go Go.RowKit Go.Proofs.YthdenkkllpkplaaGreat.Seq Go.Proofs.YthdenkkllpkplaaGreat.WS Go.Proofs.YthdenkkllpkplaaGreat.FS Go.Proofs.YthdenkkllpkplaaGreat.WordIt Go.Proofs.YthdenkkllpkplaaGreat.Mem Go.Proofs.YthdenkkllpkplaaGreat.Rd Go.Proofs.YthdenkkllpkplaaGreat.Word Go.Proofs.YthdenkkllpkplaaGreat.WordHas Go.Proofs.YthdenkkllpkplaaGreat.Shapes Go.Proofs.YthdenkkllpkplaaGreat.FFam Go.Proofs.YthdenkkllpkplaaGreat.FMay
set_option linter.unusedVariables false
set_option linter.unusedSimpArgs false

theorem grown_below {w W w7 : World} {B : Nat} {e : TypeId} {sz : Nat} {v : Value} {n : Nat} {xs : List Value} (h : Below w.heap.size w W) (hg : W.grownBy w7 v.ownBlock) (hown : W.ownsRow B e sz v n xs) (hB : w.heap.size ≤ B) : Below w.heap.size w w7 :=
  h.trans ((Off.grown (Y := fun b => B ≤ b) hg (fun r hr => (hown.lt r hr).1)).toBelow h.size (fun b hb => Nat.le_trans hB hb))
theorem own_ints {w : World} {base : Nat} {v : Value} {l : List Int} (h : w.ownsRow base 3 1 v l.length (l.map (Value.int .i64))) (hw : ∀ x ∈ l, (Lit.int .i64 x).wf = true) : RdL (intE .i64) 1 w.heap.size w v l := by
  refine RdL.of_own h rfl (fun g hg => (h.lt g hg).2) (fun i hi => ⟨?_, hw _ (List.getElem_mem _)⟩)
  rw [Nat.mul_one, List.drop_eq_getElem_cons (by simpa using hi)]
  simp
theorem wf_i64 {x : Int} (h1 : -9223372036854775808 ≤ x) (h2 : x ≤ 9223372036854775807) : (Lit.int .i64 x).wf = true := by
  simp only [Lit.wf, Bool.and_eq_true, decide_eq_true_eq]
  exact ⟨h1, h2⟩
end Go.Proofs.YthdenkkllpkplaaGreat.FTops
end
section
/- Equality: slices.Equal, forest.Same, and the document's. -/
namespace Go.Proofs.YthdenkkllpkplaaGreat.FSame
open Go Go.RowKit Go.Proofs.YthdenkkllpkplaaGreat.Seq Go.Proofs.YthdenkkllpkplaaGreat.WS Go.Proofs.YthdenkkllpkplaaGreat.FS Go.Proofs.YthdenkkllpkplaaGreat.WordIt Go.Proofs.YthdenkkllpkplaaGreat.Mem Go.Proofs.YthdenkkllpkplaaGreat.Rd Go.Proofs.YthdenkkllpkplaaGreat.Word Go.Proofs.YthdenkkllpkplaaGreat.WordHas Go.Proofs.YthdenkkllpkplaaGreat.Shapes Go.Proofs.YthdenkkllpkplaaGreat.FFam Go.Proofs.YthdenkkllpkplaaGreat.FMay
set_option linter.unusedVariables false
set_option linter.unusedSimpArgs false

theorem list_ne_len {α : Type} [DecidableEq α] {a b : List α} (h : a.length ≠ b.length) : decide (a = b) = false := decide_eq_false (fun e => h (by rw [e]))
theorem list_ne_at {α : Type} [DecidableEq α] {a b : List α} {k : Nat} (ha : k < a.length) (hb : k < b.length) (h : a[k] ≠ b[k]) : decide (a = b) = false := decide_eq_false (fun e => by subst e; exact h rfl)
theorem list_eq_at {α : Type} [DecidableEq α] {a b : List α} (hl : a.length = b.length) (h : ∀ j (ha : j < a.length) (hb : j < b.length), a[j] = b[j]) : decide (a = b) = true := decide_eq_true (List.ext_getElem hl h)

set_option maxRecDepth 100000 in
theorem EqualInts_calls (w : World) (v1 v2 : Value) (a b : List Int) (h1 : RdL (intE .i64) 1 w.heap.size w v1 a) (h2 : RdL (intE .i64) 1 w.heap.size w v2 b) :
    Calls Tryz.prog 75 #[v1, v2] w fun e w' => e = .returned (.bool (decide (a = b))) ∧ Below w.heap.size w w' := by
  have HR1 := Lib.hid (fun w' hb => h1.below (intE_keeps _) (w' := w') hb (Nat.le_refl _))
  have HR2 := Lib.hid (fun w' hb => h2.below (intE_keeps _) (w' := w') hb (Nat.le_refl _))
  obtain ⟨A1, c1, rfl, l1, m1, _⟩ := h1.form
  obtain ⟨A2, c2, rfl, l2, m2, _⟩ := h2.form
  simp only [maxLen] at m1 m2
  clear h1 h2
  by_cases hl : a.length = b.length
  case neg =>
    have hr := list_ne_len hl
    have e1 : ((a.length : Int) == (b.length : Int)) = false := by rw [beq_eq_false_iff_ne]; omega
    have e2 : ((a.length : Int) != (b.length : Int)) = true := by rw [bne_iff_ne]; omega
    have Hr := Lib.hid hr; clear hr hl
    go_enter Tryz.func75, Tryz.ntmps75
    go_wp2_with fail
    go_ret
    exact ⟨ret_bool Hr.out.symm, Below.refl _ _⟩
  case pos =>
    have e1 : ((a.length : Int) == (b.length : Int)) = true := by rw [beq_iff_eq]; omega
    have e2 : ((a.length : Int) != (b.length : Int)) = false := by rw [hl]; simp
    have hne := fun k ha hb h => list_ne_at (a := a) (b := b) (k := k) ha hb h
    have heq := list_eq_at (a := a) (b := b) hl
    have Hne := Lib.hid hne; have Heq := Lib.hid heq
    clear hne heq
    go_enter Tryz.func75, Tryz.ntmps75
    go_wp2_with fail
    go_loopw [13] (fun i wr => ∃ k : Nat, k ≤ a.length ∧ i = .int .i64 k ∧ Below w.heap.size w wr ∧ ∀ j (ha : j < a.length) (hb : j < b.length), j < k → a[j] = b[j]) (fun i _ => a.length - (intOf i).toNat)
    case atStart => exact ⟨0, Nat.zero_le _, rfl, Below.refl _ _, fun j _ _ h => by omega⟩
    case round =>
      obtain ⟨k, hk, rfl, hb, hall⟩ := hrel
      by_cases hlt : k < a.length
      · obtain ⟨b1, o1, he1, _, g1, _⟩ := intE_at (HR1.out _ hb) (i := k) hlt
        obtain ⟨b2, o2, he2, _, g2, _⟩ := intE_at (HR2.out _ hb) (i := k) (by omega)
        subst he1
        subst he2
        have hnx : a[k] = b[k]'(by omega) → ∀ j (ha : j < a.length) (hb : j < b.length), j < k + 1 → a[j] = b[j] := fun h j ha hb hj => by
          by_cases e : j = k
          · subst e; exact h
          · exact hall j ha hb (by omega)
        have hno := Hne.out k hlt (by omega)
        have Hb := Lib.hid hb
        clear hb hall
        generalize a[k] = x at *
        generalize b[k]'(by omega) = y at *
        by_cases hxy : x = y
        · subst hxy
          have Hnx := Lib.hid (hnx rfl)
          have e3 : (x != x) = false := by simp
          clear hnx hno
          go_wp2_with fail
          go_region
          go_wp2_with fail
          go_roundw
          case rel => exact ⟨k + 1, by omega, by go_num, by first | exact Hb.out | exact Hb.out.drew, Hnx.out⟩
          case measure => simp [intOf]; omega
        · have Hno := Lib.hid (hno hxy)
          have e3 : (x == y) = false := by rw [beq_eq_false_iff_ne]; exact hxy
          have e4 : (x != y) = true := by rw [bne_iff_ne]; exact hxy
          clear hnx hno hxy
          go_wp2_with fail
          go_region
          go_wp2_with fail
          go_ret
          exact ⟨ret_bool Hno.out.symm, by first | exact Hb.out | exact Hb.out.drew⟩
      · have hr := Heq.out (fun j ha hb => hall j ha hb (by omega))
        have Hr := Lib.hid hr; have Hb := Lib.hid hb
        clear hb hall hr
        obtain rfl : k = a.length := by omega
        go_wp2_with fail
        go_ret
        exact ⟨ret_bool Hr.out.symm, Hb.out⟩
set_option maxRecDepth 100000 in
theorem RefInts_calls (w : World) (v1 v2 : Value) (a b : List Int) (h1 : RdL (intE .i64) 1 w.heap.size w v1 a) (h2 : RdL (intE .i64) 1 w.heap.size w v2 b) :
    Calls Tryz.prog 41 #[v1, v2] w fun e w' => e = .returned (.bool (decide (a = b))) ∧ Below w.heap.size w w' := by
  have HR1 := Lib.hid (fun w' hb => h1.below (intE_keeps _) (w' := w') hb (Nat.le_refl _))
  have HR2 := Lib.hid (fun w' hb => h2.below (intE_keeps _) (w' := w') hb (Nat.le_refl _))
  obtain ⟨A1, c1, rfl, l1, m1, _⟩ := h1.form
  obtain ⟨A2, c2, rfl, l2, m2, _⟩ := h2.form
  simp only [maxLen] at m1 m2
  clear h1 h2
  by_cases hl : a.length = b.length
  case neg =>
    have hr := list_ne_len hl
    have e1 : ((a.length : Int) == (b.length : Int)) = false := by rw [beq_eq_false_iff_ne]; omega
    have e2 : ((a.length : Int) != (b.length : Int)) = true := by rw [bne_iff_ne]; omega
    have Hr := Lib.hid hr; clear hr hl
    go_enter Tryz.func41, Tryz.ntmps41
    go_wp2_with fail
    go_ret
    exact ⟨ret_bool Hr.out.symm, Below.refl _ _⟩
  case pos =>
    have e1 : ((a.length : Int) == (b.length : Int)) = true := by rw [beq_iff_eq]; omega
    have e2 : ((a.length : Int) != (b.length : Int)) = false := by rw [hl]; simp
    have hne := fun k ha hb h => list_ne_at (a := a) (b := b) (k := k) ha hb h
    have heq := list_eq_at (a := a) (b := b) hl
    have Hne := Lib.hid hne; have Heq := Lib.hid heq
    clear hne heq
    go_enter Tryz.func41, Tryz.ntmps41
    go_wp2_with fail
    go_loopw [5] (fun i wr => ∃ k : Nat, k ≤ a.length ∧ i = .int .i64 k ∧ Below w.heap.size w wr ∧ ∀ j (ha : j < a.length) (hb : j < b.length), j < k → a[j] = b[j]) (fun i _ => a.length - (intOf i).toNat)
    case atStart => exact ⟨0, Nat.zero_le _, rfl, Below.refl _ _, fun j _ _ h => by omega⟩
    case round =>
      obtain ⟨k, hk, rfl, hb, hall⟩ := hrel
      by_cases hlt : k < a.length
      · obtain ⟨b1, o1, he1, _, g1, _⟩ := intE_at (HR1.out _ hb) (i := k) hlt
        obtain ⟨b2, o2, he2, _, g2, _⟩ := intE_at (HR2.out _ hb) (i := k) (by omega)
        subst he1
        subst he2
        have hnx : a[k] = b[k]'(by omega) → ∀ j (ha : j < a.length) (hb : j < b.length), j < k + 1 → a[j] = b[j] := fun h j ha hb hj => by
          by_cases e : j = k
          · subst e; exact h
          · exact hall j ha hb (by omega)
        have hno := Hne.out k hlt (by omega)
        have Hb := Lib.hid hb
        clear hb hall
        generalize a[k] = x at *
        generalize b[k]'(by omega) = y at *
        by_cases hxy : x = y
        · subst hxy
          have Hnx := Lib.hid (hnx rfl)
          have e3 : (x != x) = false := by simp
          clear hnx hno
          go_wp2_with fail
          go_region
          go_wp2_with fail
          go_roundw
          case rel => exact ⟨k + 1, by omega, by go_num, by first | exact Hb.out | exact Hb.out.drew, Hnx.out⟩
          case measure => simp [intOf]; omega
        · have Hno := Lib.hid (hno hxy)
          have e3 : (x == y) = false := by rw [beq_eq_false_iff_ne]; exact hxy
          have e4 : (x != y) = true := by rw [bne_iff_ne]; exact hxy
          clear hnx hno hxy
          go_wp2_with fail
          go_region
          go_wp2_with fail
          go_ret
          exact ⟨ret_bool Hno.out.symm, by first | exact Hb.out | exact Hb.out.drew⟩
      · have hr := Heq.out (fun j ha hb => hall j ha hb (by omega))
        have Hr := Lib.hid hr; have Hb := Lib.hid hb
        clear hb hall hr
        obtain rfl : k = a.length := by omega
        go_wp2_with fail
        go_ret
        exact ⟨ret_bool Hr.out.symm, Hb.out⟩
theorem str_beq (a b : ByteArray) : (a.toList == b.toList) = decide (a = b) := by
  rw [← beq_toListBytes, Bool.eq_iff_iff, Go.MapKept.bytes_beq, decide_eq_true_eq]
theorem str_inj (a b : ByteArray) : (a.toList = b.toList) = (a = b) := by
  have := str_beq a b
  by_cases h : a = b
  · simp [h]
  · rw [decide_eq_false h] at this
    have h2 : ¬ a.toList = b.toList := by simpa using this
    simp [h, h2]
theorem neq_attr (x y : Av) (w : World) : (binOp .neq 59 (.agg #[.string x.name, .string x.value]) (.agg #[.string y.name, .string y.value])).run Tryz.prog w = .ok (.bool (!decide (x = y))) w := by
  have u3 := Tryz.underlying9
  have a3 := Tryz.isAgg9
  have z3 := Tryz.sizeOf9
  have hS : Tryz.prog.underlying 59 = some (.struct (Tryz.prog.fieldsOf 59)) := by kernel_rfl
  have hp : Tryz.prog.stoodInHeld 59 = false := by kernel_rfl
  rw [run_neq_struct, show (10000 : Nat) = 9999 + 1 from rfl, run_equalIn_agg w 9999 59 _ _ hS hp]
  simp only [Program.fieldsOf, Tryz.underlying59]
  go_simp
  obtain ⟨xn, xv⟩ := x
  obtain ⟨yn, yv⟩ := y
  by_cases h1 : xn = yn <;> by_cases h2 : xv = yv <;> simp [h1, h2, str_inj]
theorem neq_rattr (x y : Av) (w : World) : (binOp .neq 131 (.agg #[.string x.name, .string x.value]) (.agg #[.string y.name, .string y.value])).run Tryz.prog w = .ok (.bool (!decide (x = y))) w := by
  have u3 := Tryz.underlying9
  have a3 := Tryz.isAgg9
  have z3 := Tryz.sizeOf9
  have hS : Tryz.prog.underlying 131 = some (.struct (Tryz.prog.fieldsOf 131)) := by kernel_rfl
  have hp : Tryz.prog.stoodInHeld 131 = false := by kernel_rfl
  rw [run_neq_struct, show (10000 : Nat) = 9999 + 1 from rfl, run_equalIn_agg w 9999 131 _ _ hS hp]
  simp only [Program.fieldsOf, Tryz.underlying131]
  go_simp
  obtain ⟨xn, xv⟩ := x
  obtain ⟨yn, yv⟩ := y
  by_cases h1 : xn = yn <;> by_cases h2 : xv = yv <;> simp [h1, h2, str_inj]
set_option maxRecDepth 100000 in
theorem EqualAttrs_calls (w : World) (v1 v2 : Value) (a b : List Av) (h1 : RdL attrE 2 w.heap.size w v1 a) (h2 : RdL attrE 2 w.heap.size w v2 b) :
    Calls Tryz.prog 74 #[v1, v2] w fun e w' => e = .returned (.bool (decide (a = b))) ∧ Below w.heap.size w w' := by
  have HR1 := Lib.hid (fun w' hb => h1.below attrE_keeps (w' := w') hb (Nat.le_refl _))
  have HR2 := Lib.hid (fun w' hb => h2.below attrE_keeps (w' := w') hb (Nat.le_refl _))
  obtain ⟨A1, c1, rfl, l1, m1, _⟩ := h1.form
  obtain ⟨A2, c2, rfl, l2, m2, _⟩ := h2.form
  simp only [maxLen] at m1 m2
  clear h1 h2
  by_cases hl : a.length = b.length
  case neg =>
    have hr := list_ne_len hl
    have e1 : ((a.length : Int) == (b.length : Int)) = false := by rw [beq_eq_false_iff_ne]; omega
    have e2 : ((a.length : Int) != (b.length : Int)) = true := by rw [bne_iff_ne]; omega
    have Hr := Lib.hid hr; clear hr hl
    go_enter Tryz.func74, Tryz.ntmps74
    go_wp2_with fail
    go_ret
    exact ⟨ret_bool Hr.out.symm, Below.refl _ _⟩
  case pos =>
    have e1 : ((a.length : Int) == (b.length : Int)) = true := by rw [beq_iff_eq]; omega
    have e2 : ((a.length : Int) != (b.length : Int)) = false := by rw [hl]; simp
    have hne := fun k ha hb h => list_ne_at (a := a) (b := b) (k := k) ha hb h
    have heq := list_eq_at (a := a) (b := b) hl
    have Hne := Lib.hid hne; have Heq := Lib.hid heq
    clear hne heq
    go_enter Tryz.func74, Tryz.ntmps74
    go_wp2_with fail
    go_loopw [13] (fun i wr => ∃ k : Nat, k ≤ a.length ∧ i = .int .i64 k ∧ Below w.heap.size w wr ∧ ∀ j (ha : j < a.length) (hb : j < b.length), j < k → a[j] = b[j]) (fun i _ => a.length - (intOf i).toNat)
    case atStart => exact ⟨0, Nat.zero_le _, rfl, Below.refl _ _, fun j _ _ h => by omega⟩
    case round =>
      obtain ⟨k, hk, rfl, hb, hall⟩ := hrel
      by_cases hlt : k < a.length
      · obtain ⟨b1, o1, he1, _, g1, g1', _⟩ := FAttr.attr_at (HR1.out _ hb) (i := k) hlt
        obtain ⟨b2, o2, he2, _, g2, g2', _⟩ := FAttr.attr_at (HR2.out _ hb) (i := k) (by omega)
        subst he1
        subst he2
        have hnx : a[k] = b[k]'(by omega) → ∀ j (ha : j < a.length) (hb : j < b.length), j < k + 1 → a[j] = b[j] := fun h j ha hb hj => by
          by_cases e : j = k
          · subst e; exact h
          · exact hall j ha hb (by omega)
        have hno := Hne.out k hlt (by omega)
        have Hb := Lib.hid hb
        clear hb hall
        generalize a[k] = x at *
        generalize b[k]'(by omega) = y at *
        have hq := neq_attr x y
        have hgd : Tryz.prog.eqGuardType Tryz.prog.depth 59 = false := by kernel_rfl
        obtain ⟨xn, xv⟩ := x
        obtain ⟨yn, yv⟩ := y
        simp only at *
        by_cases hxy : (⟨xn, xv⟩ : Av) = ⟨yn, yv⟩
        · have Hnx := Lib.hid (hnx hxy)
          rw [decide_eq_true hxy] at hq
          simp only [Bool.not_true] at hq
          clear hnx hno hxy
          go_wp2_with fail
          go_region
          go_wp2_with fail
          go_roundw
          case rel => exact ⟨k + 1, by omega, by go_num, by first | exact Hb.out | exact Hb.out.drew, Hnx.out⟩
          case measure => simp [intOf]; omega
        · have Hno := Lib.hid (hno hxy)
          rw [decide_eq_false hxy] at hq
          simp only [Bool.not_false] at hq
          clear hnx hno hxy
          go_wp2_with fail
          go_region
          go_wp2_with fail
          go_ret
          exact ⟨ret_bool Hno.out.symm, by first | exact Hb.out | exact Hb.out.drew⟩
      · have hr := Heq.out (fun j ha hb => hall j ha hb (by omega))
        have Hr := Lib.hid hr; have Hb := Lib.hid hb
        clear hb hall hr
        obtain rfl : k = a.length := by omega
        go_wp2_with fail
        go_ret
        exact ⟨ret_bool Hr.out.symm, Hb.out⟩
set_option maxRecDepth 100000 in
theorem RefAttrs_calls (w : World) (v1 v2 : Value) (a b : List Av) (h1 : RdL attrE 2 w.heap.size w v1 a) (h2 : RdL attrE 2 w.heap.size w v2 b) :
    Calls Tryz.prog 136 #[v1, v2] w fun e w' => e = .returned (.bool (decide (a = b))) ∧ Below w.heap.size w w' := by
  have HR1 := Lib.hid (fun w' hb => h1.below attrE_keeps (w' := w') hb (Nat.le_refl _))
  have HR2 := Lib.hid (fun w' hb => h2.below attrE_keeps (w' := w') hb (Nat.le_refl _))
  obtain ⟨A1, c1, rfl, l1, m1, _⟩ := h1.form
  obtain ⟨A2, c2, rfl, l2, m2, _⟩ := h2.form
  simp only [maxLen] at m1 m2
  clear h1 h2
  by_cases hl : a.length = b.length
  case neg =>
    have hr := list_ne_len hl
    have e1 : ((a.length : Int) == (b.length : Int)) = false := by rw [beq_eq_false_iff_ne]; omega
    have e2 : ((a.length : Int) != (b.length : Int)) = true := by rw [bne_iff_ne]; omega
    have Hr := Lib.hid hr; clear hr hl
    go_enter Tryz.func136, Tryz.ntmps136
    go_wp2_with fail
    go_ret
    exact ⟨ret_bool Hr.out.symm, Below.refl _ _⟩
  case pos =>
    have e1 : ((a.length : Int) == (b.length : Int)) = true := by rw [beq_iff_eq]; omega
    have e2 : ((a.length : Int) != (b.length : Int)) = false := by rw [hl]; simp
    have hne := fun k ha hb h => list_ne_at (a := a) (b := b) (k := k) ha hb h
    have heq := list_eq_at (a := a) (b := b) hl
    have Hne := Lib.hid hne; have Heq := Lib.hid heq
    clear hne heq
    go_enter Tryz.func136, Tryz.ntmps136
    go_wp2_with fail
    go_loopw [5] (fun i wr => ∃ k : Nat, k ≤ a.length ∧ i = .int .i64 k ∧ Below w.heap.size w wr ∧ ∀ j (ha : j < a.length) (hb : j < b.length), j < k → a[j] = b[j]) (fun i _ => a.length - (intOf i).toNat)
    case atStart => exact ⟨0, Nat.zero_le _, rfl, Below.refl _ _, fun j _ _ h => by omega⟩
    case round =>
      obtain ⟨k, hk, rfl, hb, hall⟩ := hrel
      by_cases hlt : k < a.length
      · obtain ⟨b1, o1, he1, _, g1, g1', _⟩ := FAttr.attr_at (HR1.out _ hb) (i := k) hlt
        obtain ⟨b2, o2, he2, _, g2, g2', _⟩ := FAttr.attr_at (HR2.out _ hb) (i := k) (by omega)
        subst he1
        subst he2
        have hnx : a[k] = b[k]'(by omega) → ∀ j (ha : j < a.length) (hb : j < b.length), j < k + 1 → a[j] = b[j] := fun h j ha hb hj => by
          by_cases e : j = k
          · subst e; exact h
          · exact hall j ha hb (by omega)
        have hno := Hne.out k hlt (by omega)
        have Hb := Lib.hid hb
        clear hb hall
        generalize a[k] = x at *
        generalize b[k]'(by omega) = y at *
        have hq := neq_rattr x y
        have hgd : Tryz.prog.eqGuardType Tryz.prog.depth 131 = false := by kernel_rfl
        obtain ⟨xn, xv⟩ := x
        obtain ⟨yn, yv⟩ := y
        simp only at *
        by_cases hxy : (⟨xn, xv⟩ : Av) = ⟨yn, yv⟩
        · have Hnx := Lib.hid (hnx hxy)
          rw [decide_eq_true hxy] at hq
          simp only [Bool.not_true] at hq
          clear hnx hno hxy
          go_wp2_with fail
          go_region
          go_wp2_with fail
          go_roundw
          case rel => exact ⟨k + 1, by omega, by go_num, by first | exact Hb.out | exact Hb.out.drew, Hnx.out⟩
          case measure => simp [intOf]; omega
        · have Hno := Lib.hid (hno hxy)
          rw [decide_eq_false hxy] at hq
          simp only [Bool.not_false] at hq
          clear hnx hno hxy
          go_wp2_with fail
          go_region
          go_wp2_with fail
          go_ret
          exact ⟨ret_bool Hno.out.symm, by first | exact Hb.out | exact Hb.out.drew⟩
      · have hr := Heq.out (fun j ha hb => hall j ha hb (by omega))
        have Hr := Lib.hid hr; have Hb := Lib.hid hb
        clear hb hall hr
        obtain rfl : k = a.length := by omega
        go_wp2_with fail
        go_ret
        exact ⟨ret_bool Hr.out.symm, Hb.out⟩
end Go.Proofs.YthdenkkllpkplaaGreat.FSame
end
section
/- op.May: may an operation be? -/
namespace Go.Proofs.YthdenkkllpkplaaGreat.OpMay
open Go Go.RowKit Go.Proofs.YthdenkkllpkplaaGreat.Seq Go.Proofs.YthdenkkllpkplaaGreat.WS Go.Proofs.YthdenkkllpkplaaGreat.FS Go.Proofs.YthdenkkllpkplaaGreat.Mem Go.Proofs.YthdenkkllpkplaaGreat.Rd
set_option linter.unusedVariables false
set_option linter.unusedSimpArgs false

abbrev opRow (o : Opn) : Array Value := #[.int .i64 o.kind, .int .i64 o.id, .int .i64 o.to, .int .i64 o.at_, .string o.name, .string o.text]
theorem eql_op (x y : Opn) (w : World) : (binOp .eql 24 (.agg #[.int .i64 x.kind, .int .i64 x.id, .int .i64 x.to, .int .i64 x.at_, .string x.name, .string x.text]) (.agg #[.int .i64 y.kind, .int .i64 y.id, .int .i64 y.to, .int .i64 y.at_, .string y.name, .string y.text])).run Tryz.prog w = .ok (.bool (decide (x = y))) w := by
  have u3 := Tryz.underlying9
  have a3 := Tryz.isAgg9
  have z3 := Tryz.sizeOf9
  have u4 := Tryz.underlying3
  have a4 := Tryz.isAgg3
  have z4 := Tryz.sizeOf3
  have hS : Tryz.prog.underlying 24 = some (.struct (Tryz.prog.fieldsOf 24)) := by kernel_rfl
  have hp : Tryz.prog.stoodInHeld 24 = false := by kernel_rfl
  rw [run_eql_struct, show (10000 : Nat) = 9999 + 1 from rfl, run_equalIn_agg w 9999 24 _ _ hS hp]
  simp only [Program.fieldsOf, Tryz.underlying24]
  go_simp
  obtain ⟨x1, x2, x3, x4, x5, x6⟩ := x
  obtain ⟨y1, y2, y3, y4, y5, y6⟩ := y
  by_cases h1 : x1 = y1 <;> by_cases h2 : x2 = y2 <;> by_cases h3 : x3 = y3 <;> by_cases h4 : x4 = y4 <;> by_cases h5 : x5 = y5 <;> by_cases h6 : x6 = y6 <;> simp [h1, h2, h3, h4, h5, h6, FSame.str_inj]
theorem wpList_build {P : Program} {ops : Array Oper} {rest : List Oper} {o : Oper} {a : Act} {w : World} {Q : Exit → Act → World → Prop} (hg : o.guard = none) (t : TypeId) (ps : Array (Nat × Operand)) (ho : o.op = .build t ps) (vs : Array (Nat × Value)) (hv : ps.map (fun x => (x.1, a.eval x.2)) = vs) (v : Value) (hr : (Instr.build t vs).run P w = .ok v w)
    (h : wpList P ops Q rest (a.put o.dst v) w) : wpList P ops Q (o :: rest) a w := by
  refine wpList_plain hg fun K hK => ?_
  unfold Oper.wp
  simp only [execOp, ho, hv, Sem.run_bind, hr, Result.andThen_ok, Sem.run_pure]
  exact hK _ _ h
/-- The words of the kinds, their numbers, whether they have a name, a text. -/
def shapesA : Array Value := #[.string ⟨#[]⟩, .int .i64 0, .bool false, .bool false,
  .string ⟨#[101, 108, 101, 109, 101, 110, 116]⟩, .int .i64 0, .bool true, .bool false, .string ⟨#[116, 101, 120, 116]⟩, .int .i64 0, .bool false, .bool true, .string ⟨#[99, 111, 109, 109, 101, 110, 116]⟩, .int .i64 0, .bool false, .bool true,
  .string ⟨#[105, 110, 115, 101, 114, 116]⟩, .int .i64 3, .bool false, .bool false, .string ⟨#[114, 101, 109, 111, 118, 101]⟩, .int .i64 1, .bool false, .bool false, .string ⟨#[115, 101, 116]⟩, .int .i64 1, .bool true, .bool true,
  .string ⟨#[117, 110, 115, 101, 116]⟩, .int .i64 1, .bool true, .bool false, .string ⟨#[99, 104, 97, 110, 103, 101]⟩, .int .i64 1, .bool false, .bool true]
def zerosA : Array Value := (Array.replicate 9 #[Value.string ⟨#[]⟩, .int .i64 0, .bool false, .bool false]).flatten
theorem zero_shapes (w : World) : (zeroValue 186).run Tryz.prog w = .ok (.agg zerosA) w := by kernel_rfl
def partsA : Array (Nat × Value) := #[(1, .agg #[.string ⟨#[101, 108, 101, 109, 101, 110, 116]⟩, .int .i64 0, .bool true, .bool false]), (2, .agg #[.string ⟨#[116, 101, 120, 116]⟩, .int .i64 0, .bool false, .bool true]), (3, .agg #[.string ⟨#[99, 111, 109, 109, 101, 110, 116]⟩, .int .i64 0, .bool false, .bool true]),
    (4, .agg #[.string ⟨#[105, 110, 115, 101, 114, 116]⟩, .int .i64 3, .bool false, .bool false]), (5, .agg #[.string ⟨#[114, 101, 109, 111, 118, 101]⟩, .int .i64 1, .bool false, .bool false]), (6, .agg #[.string ⟨#[115, 101, 116]⟩, .int .i64 1, .bool true, .bool true]),
    (7, .agg #[.string ⟨#[117, 110, 115, 101, 116]⟩, .int .i64 1, .bool true, .bool false]), (8, .agg #[.string ⟨#[99, 104, 97, 110, 103, 101]⟩, .int .i64 1, .bool false, .bool true])]
theorem build_shapes (w : World) : (Instr.build 186 partsA).run Tryz.prog w = .ok (.agg shapesA) w := by kernel_rfl
theorem store_shapes (W : World) (b : Nat) (hb : b = W.heap.size) : (storeCells ⟨b, 0, none⟩ shapesA.toList 0).run Tryz.prog (W.alloc (.cells zerosA 186)) = .ok () (W.alloc (.cells shapesA 186)) := by
  subst hb
  exact run_storeCells_new (P := Tryz.prog) W _ _ _ (by kernel_rfl) (by kernel_rfl) (by kernel_rfl)
def ShapedPost (k : Int) (w : World) (e : Ending) (w' : World) : Prop := (∃ s : ByteArray, e = .returned (.tuple #[.agg #[.string s, .int .i64 (shapeN k), .bool (shapeA k), .bool (shapeT k)], .bool true])) ∧ Below w.heap.size w w'
def UnshapedPost (w : World) (e : Ending) (w' : World) : Prop := e = .returned (.tuple #[.agg #[.string ⟨#[]⟩, .int .i64 0, .bool false, .bool false], .bool false]) ∧ Below w.heap.size w w'
set_option maxRecDepth 100000 in
set_option maxHeartbeats 4000000 in
theorem unshaped_calls (k : Int) (hk : ¬ (1 ≤ k ∧ k ≤ 8)) (w : World) : Calls Tryz.prog 55 #[.int .i64 k] w (UnshapedPost w) := by
  by_cases h1 : k < 1
  · go_enter Tryz.func55, Tryz.ntmps55
    go_upto_region 1 with (fail)
    go_step
    iterate 24 go_step
    refine wpList_build rfl 186 _ rfl partsA (by simp [Act.eval, partsA]) (.agg shapesA) (build_shapes _) ?_
    have hz := zero_shapes
    have hst := store_shapes (w.alloc (.cells #[.string ⟨#[]⟩, .int .i64 0, .bool false, .bool false] 119)) (w.heap.size + 1) (by simp)
    go_wp2_with fail
    refine bodyPost_ret (v := .tuple #[.agg #[.string ⟨#[]⟩, .int .i64 0, .bool false, .bool false], .bool false]) (by simp [results, Tryz.results55, go_sem]) rfl ⟨rfl, ?_⟩
    exact ((Below.refl _ _).alloc (Nat.le_refl _) _).alloc (by simp) _
  · have h8 : 8 < k := by omega
    go_enter Tryz.func55, Tryz.ntmps55
    go_upto_region 1 with (fail)
    go_step
    iterate 24 go_step
    refine wpList_build rfl 186 _ rfl partsA (by simp [Act.eval, partsA]) (.agg shapesA) (build_shapes _) ?_
    have hz := zero_shapes
    have hst := store_shapes (w.alloc (.cells #[.string ⟨#[]⟩, .int .i64 0, .bool false, .bool false] 119)) (w.heap.size + 1) (by simp)
    go_wp2_with fail
    refine bodyPost_ret (v := .tuple #[.agg #[.string ⟨#[]⟩, .int .i64 0, .bool false, .bool false], .bool false]) (by simp [results, Tryz.results55, go_sem]) rfl ⟨rfl, ?_⟩
    exact ((Below.refl _ _).alloc (Nat.le_refl _) _).alloc (by simp) _
def wordK (k : Nat) : ByteArray := match shapesA[k * 4]? with | some (.string s) => s | _ => ⟨#[]⟩
theorem shapes_at : ∀ k : Fin 8, shapesA[(k.val + 1) * 4]? = some (.string (wordK (k.val + 1))) ∧ shapesA[(k.val + 1) * 4 + 1]? = some (.int .i64 (shapeN ((k.val + 1 : Nat) : Int))) ∧ shapesA[(k.val + 1) * 4 + 2]? = some (.bool (shapeA ((k.val + 1 : Nat) : Int))) ∧ shapesA[(k.val + 1) * 4 + 3]? = some (.bool (shapeT ((k.val + 1 : Nat) : Int)))
  | ⟨0, _⟩ => ⟨rfl, rfl, rfl, rfl⟩
  | ⟨1, _⟩ => ⟨rfl, rfl, rfl, rfl⟩
  | ⟨2, _⟩ => ⟨rfl, rfl, rfl, rfl⟩
  | ⟨3, _⟩ => ⟨rfl, rfl, rfl, rfl⟩
  | ⟨4, _⟩ => ⟨rfl, rfl, rfl, rfl⟩
  | ⟨5, _⟩ => ⟨rfl, rfl, rfl, rfl⟩
  | ⟨6, _⟩ => ⟨rfl, rfl, rfl, rfl⟩
  | ⟨7, _⟩ => ⟨rfl, rfl, rfl, rfl⟩
set_option maxRecDepth 100000 in
set_option maxHeartbeats 4000000 in
theorem shaped_calls (k : Nat) (h1 : 1 ≤ k) (h8 : k ≤ 8) (w : World) : Calls Tryz.prog 55 #[.int .i64 k] w (ShapedPost k w) := by
  obtain ⟨s0, s1, s2, s3⟩ := shapes_at ⟨k - 1, by omega⟩
  simp only [show k - 1 + 1 = k by omega] at s0 s1 s2 s3
  have d1 : decide ((k : Int) < 1) = false := by simp; omega
  have d2 : decide ((8 : Int) < (k : Int)) = false := by simp; omega
  have hk0 : (0 : Int) ≤ (k : Int) := by omega
  have hk9 : (k : Int) < 9 := by omega
  generalize hN : shapeN (k : Int) = N at *
  generalize hA : shapeA (k : Int) = A at *
  generalize hT : shapeT (k : Int) = T at *
  generalize wordK k = W at *
  have HN := Lib.hid hN; have HA := Lib.hid hA; have HT := Lib.hid hT
  obtain ⟨w1, hw1⟩ : ∃ w1, w.alloc (.cells #[.string ⟨#[]⟩, .int .i64 0, .bool false, .bool false] 119) = w1 := ⟨_, rfl⟩
  obtain ⟨w2, hw2⟩ : ∃ w2, w1.alloc (.cells shapesA 186) = w2 := ⟨_, rfl⟩
  have hrow : w2.heap[w.heap.size + 1]? = some (.cells shapesA 186 (0, 0)) := by rw [← hw2, ← hw1]; have := World.alloc_heap_new (w.alloc (.cells #[.string ⟨#[]⟩, .int .i64 0, .bool false, .bool false] 119)) (.cells shapesA 186); rwa [World.size_alloc] at this
  have q0 : w2.cell? ⟨w.heap.size + 1, k * 4, none⟩ = some (.string W) := (cell_of_row _ _ _ _ _ _ hrow).trans s0
  have q1 : w2.cell? ⟨w.heap.size + 1, k * 4 + 1, none⟩ = some (.int .i64 N) := (cell_of_row _ _ _ _ _ _ hrow).trans s1
  have q2 : w2.cell? ⟨w.heap.size + 1, k * 4 + 2, none⟩ = some (.bool A) := (cell_of_row _ _ _ _ _ _ hrow).trans s2
  have q3 : w2.cell? ⟨w.heap.size + 1, k * 4 + 3, none⟩ = some (.bool T) := (cell_of_row _ _ _ _ _ _ hrow).trans s3
  have hrow0 : w2.heap[w.heap.size]? = some (.cells #[.string ⟨#[]⟩, .int .i64 0, .bool false, .bool false] 119 (0, 0)) := by rw [← hw2, ← hw1]; exact heap_old (World.alloc_heap_new w _)
  have z0 : w2.cell? ⟨w.heap.size, 0, none⟩ = some (.string ⟨#[]⟩) := (cell_of_row _ _ _ _ _ _ hrow0).trans rfl
  have z1 : w2.cell? ⟨w.heap.size, 1, none⟩ = some (.int .i64 0) := (cell_of_row _ _ _ _ _ _ hrow0).trans rfl
  have z2 : w2.cell? ⟨w.heap.size, 2, none⟩ = some (.bool false) := (cell_of_row _ _ _ _ _ _ hrow0).trans rfl
  have z3 : w2.cell? ⟨w.heap.size, 3, none⟩ = some (.bool false) := (cell_of_row _ _ _ _ _ _ hrow0).trans rfl
  have zf : ∀ j, w2.frozen? ⟨w.heap.size, j, none⟩ = false := free_of hrow0
  have hb2 : Below w.heap.size w w2 := by rw [← hw2, ← hw1]; exact ((Below.refl _ _).alloc (Nat.le_refl _) _).alloc (by simp) _
  have Hb2 := Lib.hid hb2
  have Hw1 := Lib.hid hw1; have Hw2 := Lib.hid hw2
  clear hN hA hT s0 s1 s2 s3 hw1 hw2 hrow hrow0 hb2
  go_enter Tryz.func55, Tryz.ntmps55
  go_upto_region 1 with (fail)
  go_step
  iterate 24 go_step
  refine wpList_build rfl 186 _ rfl partsA (by simp [Act.eval, partsA]) (.agg shapesA) (build_shapes _) ?_
  have hz := zero_shapes
  have hst := store_shapes (w.alloc (.cells #[.string ⟨#[]⟩, .int .i64 0, .bool false, .bool false] 119)) (w.heap.size + 1) (by simp)
  go_upto_region 2 with (fail)
  rw [Hw1.out, Hw2.out]
  clear hst
  go_wp2_with fail
  refine bodyPost_ret (v := .tuple #[.agg #[.string W, .int .i64 N, .bool A, .bool T], .bool true]) (by simp [results, Tryz.results55, go_sem, z0, z1, z2, z3]) rfl ⟨⟨W, by rw [HN.out, HA.out, HT.out]⟩, ?_⟩
  exact (((Hb2.out.setCell (Nat.le_refl _) _).setCell (Nat.le_refl _) _).setCell (Nat.le_refl _) _).setCell (Nat.le_refl _) _
end Go.Proofs.YthdenkkllpkplaaGreat.OpMay
end
section
/- Library contracts laid by hand: strings.Builder (the layer's own program finds no number for a type that no body names), strings.Count. -/
namespace Go.Proofs.YthdenkkllpkplaaGreat.ShelfB
open Go.Shelf Go.Proofs
def ren : Go.Shelf.Ren := ⟨fun | 166 => 97 | 240 => 166 | 276 => 189 | 169 => 99 | n => n,
  fun | 70 => 161 | 9 => 9 | 0 => 0 | 72 => 164 | 37 => 162 | 127 => 232 | 3 => 3 | 5 => 5 | 4 => 4 | 20 => 20 | 75 => 169 | 164 => 248 | 80 => 173 | n => n, fun | n => n⟩
theorem lays166 : Go.Proofs.Lays.n166 Tryz.prog ren := {
  mixed := by kernel_rfl
  f166 := Tryz.func97.trans (congrArg some (by kernel_rfl))
  f240 := Tryz.func166.trans (congrArg some (by kernel_rfl))
  f276 := Tryz.func189.trans (congrArg some (by kernel_rfl))
  t0 := Tryz.underlying0
  a0 := Tryz.isAgg0
  z0 := Tryz.sizeOf0
  v0 := Tryz.zeroValue0
  t3 := Tryz.underlying3
  a3 := Tryz.isAgg3
  z3 := Tryz.sizeOf3
  v3 := Tryz.zeroValue3
  t4 := Tryz.underlying4
  a4 := Tryz.isAgg4
  z4 := Tryz.sizeOf4
  v4 := Tryz.zeroValue4
  t9 := Tryz.underlying9
  a9 := Tryz.isAgg9
  z9 := Tryz.sizeOf9
  v9 := Tryz.zeroValue9
  t20 := Tryz.underlying20
  a20 := Tryz.isAgg20
  z20 := Tryz.sizeOf20
  v20 := Tryz.zeroValue20
  t37 := Tryz.underlying162
  a37 := Tryz.isAgg162
  z37 := Tryz.sizeOf162
  v37 := Tryz.zeroValue162
  t70 := Tryz.underlying161
  a70 := Tryz.isAgg161
  z70 := Tryz.sizeOf161
  v70 := Tryz.zeroValue161
  t72 := Tryz.underlying164
  a72 := Tryz.isAgg164
  z72 := Tryz.sizeOf164
  v72 := Tryz.zeroValue164
  t75 := Tryz.underlying169
  a75 := Tryz.isAgg169
  z75 := Tryz.sizeOf169
  v75 := Tryz.zeroValue169
  t164 := Tryz.underlying248
  a164 := Tryz.isAgg248
  z164 := Tryz.sizeOf248
  v164 := Tryz.zeroValue248 }
theorem lays240 : Go.Proofs.Lays.n240 Tryz.prog ren := {
  mixed := by kernel_rfl
  f240 := Tryz.func166.trans (congrArg some (by kernel_rfl))
  f276 := Tryz.func189.trans (congrArg some (by kernel_rfl))
  t0 := Tryz.underlying0
  a0 := Tryz.isAgg0
  z0 := Tryz.sizeOf0
  v0 := Tryz.zeroValue0
  t4 := Tryz.underlying4
  a4 := Tryz.isAgg4
  z4 := Tryz.sizeOf4
  v4 := Tryz.zeroValue4
  t9 := Tryz.underlying9
  a9 := Tryz.isAgg9
  z9 := Tryz.sizeOf9
  v9 := Tryz.zeroValue9
  t20 := Tryz.underlying20
  a20 := Tryz.isAgg20
  z20 := Tryz.sizeOf20
  v20 := Tryz.zeroValue20
  t70 := Tryz.underlying161
  a70 := Tryz.isAgg161
  z70 := Tryz.sizeOf161
  v70 := Tryz.zeroValue161
  t72 := Tryz.underlying164
  a72 := Tryz.isAgg164
  z72 := Tryz.sizeOf164
  v72 := Tryz.zeroValue164
  t164 := Tryz.underlying248
  a164 := Tryz.isAgg248
  z164 := Tryz.sizeOf248
  v164 := Tryz.zeroValue248 }
theorem lays169 : Go.Proofs.Lays.n169 Tryz.prog ren := {
  mixed := by kernel_rfl
  f169 := Tryz.func99.trans (congrArg some (by kernel_rfl))
  t0 := Tryz.underlying0
  a0 := Tryz.isAgg0
  z0 := Tryz.sizeOf0
  v0 := Tryz.zeroValue0
  t3 := Tryz.underlying3
  a3 := Tryz.isAgg3
  z3 := Tryz.sizeOf3
  v3 := Tryz.zeroValue3
  t9 := Tryz.underlying9
  a9 := Tryz.isAgg9
  z9 := Tryz.sizeOf9
  v9 := Tryz.zeroValue9
  t37 := Tryz.underlying162
  a37 := Tryz.isAgg162
  z37 := Tryz.sizeOf162
  v37 := Tryz.zeroValue162
  t70 := Tryz.underlying161
  a70 := Tryz.isAgg161
  z70 := Tryz.sizeOf161
  v70 := Tryz.zeroValue161
  t72 := Tryz.underlying164
  a72 := Tryz.isAgg164
  z72 := Tryz.sizeOf164
  v72 := Tryz.zeroValue164
  t127 := Tryz.underlying232
  a127 := Tryz.isAgg232
  z127 := Tryz.sizeOf232
  v127 := Tryz.zeroValue232 }
theorem extra : Builder.Extra Tryz.prog ren where
  sizeBuilder := by kernel_rfl
  liesBuilder := by kernel_rfl
  t5 := Tryz.underlying5
  a5 := Tryz.isAgg5
  z5 := Tryz.sizeOf5
  v5 := Tryz.zeroValue5
  infoByte := by kernel_rfl
  cellsByte := by kernel_rfl
  sizeByte := by kernel_rfl
  neB5 := by decide
open Go Go.RowKit in
theorem copyCheck_used (b : Nat) (w : World) (h0 : w.cell? ⟨b, 0, none⟩ = some (.pointer (some ⟨b, 0, none⟩))) : Calls Tryz.prog 166 #[.pointer (some ⟨b, 0, none⟩)] w fun e w' => e = .returned (.tuple #[]) ∧ w' = w :=
  Any.Builder_copyCheck_used lays240 extra.toX72 b w h0
open Go Go.RowKit in
theorem copyCheck_fresh (b : Nat) (w : World) (h0 : w.cell? ⟨b, 0, none⟩ = some (.pointer none)) (hsh : w.shape? b = some (164, 2)) (hfz : w.frozen? ⟨b, 0, none⟩ = false) :
    Calls Tryz.prog 166 #[.pointer (some ⟨b, 0, none⟩)] w fun e w' => e = .returned (.tuple #[]) ∧ w' = w.setCell ⟨b, 0, none⟩ (.pointer (some ⟨b, 0, none⟩)) :=
  Any.Builder_copyCheck_fresh lays240 extra.toX72 b w h0 hsh hfz
open Go Go.RowKit in
theorem String_any (B b : Nat) (l : List UInt8) (w : World) (h : Lib.IsBuilder 164 5 B b (Lib.byteCells l) w) (hBw : B ≤ w.heap.size) :
    Calls Tryz.prog 99 #[.pointer (some ⟨b, 0, none⟩)] w fun e w' => e = .returned (.string ⟨l.toArray⟩) ∧ Below B w w' := Any.Builder_String_any lays169 extra B b l w h hBw
end Go.Proofs.YthdenkkllpkplaaGreat.ShelfB
end
