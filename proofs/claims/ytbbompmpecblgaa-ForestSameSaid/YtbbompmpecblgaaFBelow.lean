/- forest.Below, Tops, New. -/
import Derived.Test.YtbbompmpecblgaaFMay
import Derived.Test.YtbbompmpecblgaaFSpec2
namespace Go.Proofs.Ytbbompmpecblgaa.FBelow
open Go Go.RowKit Go.Proofs.Ytbbompmpecblgaa.Seq Go.Proofs.Ytbbompmpecblgaa.WS Go.Proofs.Ytbbompmpecblgaa.FS Go.Proofs.Ytbbompmpecblgaa.WordIt Go.Proofs.Ytbbompmpecblgaa.Mem Go.Proofs.Ytbbompmpecblgaa.Rd Go.Proofs.Ytbbompmpecblgaa.Word Go.Proofs.Ytbbompmpecblgaa.WordHas Go.Proofs.Ytbbompmpecblgaa.Shapes Go.Proofs.Ytbbompmpecblgaa.FFam Go.Proofs.Ytbbompmpecblgaa.FMay
set_option linter.unusedVariables false
set_option linter.unusedSimpArgs false

set_option maxRecDepth 100000 in
set_option maxHeartbeats 4000000 in
theorem Below_calls (w : World) (v : Value) (f : Fo) (top id : Int) (h : RdF w.heap.size w v f) (hkm : ∀ n ∈ f, n.kids.length ≤ 1000) :
    Calls Try.prog 34 #[v, .int .i64 top, .int .i64 id] w fun e w' => e = .returned (.bool (belowB f top id)) ∧ Below w.heap.size w w' := by
  have HR := Lib.hid (fun w' hb => h.below nodeE_keeps (w' := w') hb (Nat.le_refl _))
  have hmy := May_calls w v f h hkm
  obtain ⟨A0, c0, rfl, hl0, hc0, _⟩ := h.form
  simp only [maxLen] at hc0
  clear h
  cases hm : mayB f with
  | false =>
    have hb : belowB f top id = false := by unfold belowB; rw [hm]; simp
    rw [hm] at hmy
    have Hmy := Lib.hid hmy; have Hb := Lib.hid hb
    clear hmy hb hm
    go_enter Try.func34, Try.ntmps34
    go_wp2_with (go_at_call 32; with_reducible refine (Hmy.out).mono ?_; rintro e w5 ⟨rfl, hb5⟩; have Hb5 := Lib.hid hb5; clear hb5)
    go_ret
    exact ⟨ret_bool Hb.out.symm, Hb5.out⟩
  | true =>
    rw [hm] at hmy
    have Hmy := Lib.hid hmy; clear hmy
    have hlen := (may_len hm).2
    by_cases hin : 0 ≤ id ∧ id < f.length
    case neg =>
      have hb : belowB f top id = false := by unfold belowB; rw [show isNode f id = false by rw [← Bool.not_eq_true, isNode_iff]; exact hin]; simp
      have Hb := Lib.hid hb
      clear hb hm
      by_cases h0 : id < 0
      · clear hin
        go_enter Try.func34, Try.ntmps34
        go_wp2_with (go_at_call 32; with_reducible refine (Hmy.out).mono ?_; rintro e w5 ⟨rfl, hb5⟩; have Hb5 := Lib.hid hb5; clear hb5)
        go_ret
        exact ⟨ret_bool Hb.out.symm, Hb5.out⟩
      · have h1 : (f.length : Int) ≤ id := by omega
        clear hin
        go_enter Try.func34, Try.ntmps34
        go_wp2_with (go_at_call 32; with_reducible refine (Hmy.out).mono ?_; rintro e w5 ⟨rfl, hb5⟩; have Hb5 := Lib.hid hb5; clear hb5)
        go_ret
        exact ⟨ret_bool Hb.out.symm, Hb5.out⟩
    case pos =>
      obtain ⟨hi0, hi1⟩ := hin
      have hnode : isNode f id = true := (isNode_iff f id).2 ⟨hi0, hi1⟩
      obtain ⟨N, hN⟩ : ∃ N, Up f N id := by
        obtain ⟨n, hn⟩ := may_climbs hm id.toNat (by omega)
        exact ⟨n, by rwa [Int.toNat_of_nonneg hi0] at hn⟩
      have hpar := family_parents (may_family hm)
      have HN := Lib.hid hN; have Hm := Lib.hid hm; have Hnode := Lib.hid hnode; have Hpar := Lib.hid hpar
      clear hN hm hnode hpar
      go_enter Try.func34, Try.ntmps34
      go_wp2_with (go_at_call 32; with_reducible refine (Hmy.out).mono ?_; rintro e w5 ⟨rfl, hb5⟩; have Hb5 := Lib.hid hb5; clear hb5)
      go_loopg [2] N (fun g i wx => ∃ j : Int, i = .int .i64 j ∧ Up f g j ∧ -1 ≤ j ∧ j < f.length ∧ (belowP f top id ↔ belowP f top j) ∧ wx = w5)
      case atStart => exact ⟨id, rfl, HN.out, by omega, hi1, Iff.rfl, rfl⟩
      case round =>
        obtain ⟨j, rfl, hup, hj0, hj1, hiff, rfl⟩ := hrel
        by_cases htop : j = top
        · subst htop
          have hres : belowB f j id = decide (0 ≤ j) := below_eq Hm.out Hnode.out (by rw [hiff, decide_eq_true_eq]; exact ⟨fun h => h.1, fun h => ⟨h, 0, rfl⟩⟩)
          have Hres := Lib.hid hres
          have hne : (j != j) = false := by simp
          clear hup hiff hres
          go_wp2_with fail
          go_ret
          refine ⟨ret_bool ?_, Hb5.out⟩
          rw [Hres.out, Bool.eq_iff_iff]
          simp
          omega
        · have hne : (j != top) = true := by rw [bne_iff_ne]; exact htop
          have hne2 : (j == top) = false := by rw [beq_eq_false_iff_ne]; exact htop
          by_cases h1 : j = -1
          · subst h1
            have hres : belowB f top id = false := below_eq Hm.out Hnode.out (by rw [hiff]; exact ⟨fun h => absurd h (belowP_end htop), fun h => by cases h⟩)
            have Hres := Lib.hid hres
            clear hup hiff hres
            go_wp2_with fail
            go_ret
            exact ⟨ret_bool Hres.out.symm, Hb5.out⟩
          · obtain ⟨x, rfl⟩ : ∃ x : Nat, j = x := ⟨j.toNat, by omega⟩
            have hx : x < f.length := by omega
            have hx1 : ((x : Int) == -1) = false := by rw [beq_eq_false_iff_ne]; omega
            obtain ⟨g, rfl⟩ : ∃ g, gk = g + 1 := by
              cases gk with
              | zero => have : (x : Int) < 0 := hup; omega
              | succ g => exact ⟨g, rfl⟩
            obtain ⟨b', o', _, _, _, _, rfl, _, _, _, _, _, n4, _⟩ := node_at (HR.out _ Hb5.out) hx
            rw [← at_nat hx] at n4
            have hst := belowP_step (f := f) (top := top) (j := x) (by omega) htop
            have hp := Hpar.out x hx
            have hup2 := hup.2
            rw [← hiff] at hst
            generalize (at_ f x).parent = pr at *
            have Hst := Lib.hid hst; have Hup := Lib.hid hup2
            clear hup hiff hst hup2
            go_wp2_with fail
            go_roundg g
            case measure => omega
            case rel => exact ⟨pr, rfl, Hup.out, hp.1, hp.2, Hst.out, rfl⟩
end Go.Proofs.Ytbbompmpecblgaa.FBelow
