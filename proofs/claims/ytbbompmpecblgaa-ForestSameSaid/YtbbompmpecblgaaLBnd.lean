/- treillagelaw05.bounded. -/
import Derived.Test.YtbbompmpecblgaaFTops
namespace Go.Proofs.Ytbbompmpecblgaa.LBnd
open Go Go.RowKit Go.Proofs.Ytbbompmpecblgaa.Seq Go.Proofs.Ytbbompmpecblgaa.WS Go.Proofs.Ytbbompmpecblgaa.FS Go.Proofs.Ytbbompmpecblgaa.Mem Go.Proofs.Ytbbompmpecblgaa.Rd Go.Proofs.Ytbbompmpecblgaa.Shapes Go.Proofs.Ytbbompmpecblgaa.Word Go.Proofs.Ytbbompmpecblgaa.FFam
set_option linter.unusedVariables false
set_option linter.unusedSimpArgs false

def avB (a : Av) : Bool := decide (a.name.size ≤ 100) && decide (a.value.size ≤ 100)
def ndB (n : Nd) : Bool := decide (n.name.size ≤ 100 ∧ n.text.size ≤ 100 ∧ n.attrs.length ≤ 12 ∧ n.kids.length ≤ 80) && n.attrs.all avB
def bndB (f : Fo) : Bool := f.all ndB && decide (f.length ≤ 70)
theorem bnd_no {f : Fo} {k : Nat} (hk : k < f.length) (h : ndB f[k] = false) : bndB f = false := by
  unfold bndB
  rw [Bool.and_eq_false_iff]
  left
  rw [List.all_eq_false]
  exact ⟨f[k], List.getElem_mem _, by rw [h]; simp⟩
theorem nd_no {n : Nd} (h : ¬ (n.name.size ≤ 100 ∧ n.text.size ≤ 100 ∧ n.attrs.length ≤ 12 ∧ n.kids.length ≤ 80)) : ndB n = false := by
  unfold ndB
  rw [decide_eq_false h]; rfl
theorem av_no {n : Nd} {k : Nat} (hk : k < n.attrs.length) (h : avB n.attrs[k] = false) : ndB n = false := by
  unfold ndB
  rw [Bool.and_eq_false_iff]
  right
  rw [List.all_eq_false]
  exact ⟨n.attrs[k], List.getElem_mem _, by rw [h]; simp⟩
theorem bnd_kids {f : Fo} (h : bndB f = true) : ∀ n ∈ f, n.kids.length ≤ 1000 := by
  intro n hn
  unfold bndB at h
  rw [Bool.and_eq_true, List.all_eq_true] at h
  have := h.1 n hn
  unfold ndB at this
  rw [Bool.and_eq_true, decide_eq_true_eq] at this
  omega
theorem bnd_len {f : Fo} (h : bndB f = true) : f.length ≤ 70 := by
  unfold bndB at h
  rw [Bool.and_eq_true, decide_eq_true_eq] at h
  exact h.2
set_option maxRecDepth 100000 in
set_option maxHeartbeats 4000000 in
theorem bounded_calls (w : World) (v : Value) (f : Fo) (h : RdF w.heap.size w v f) : Calls Try.prog 27 #[v] w fun e w' => e = .returned (.bool (bndB f)) ∧ w = w' := by
  obtain ⟨A0, c0, rfl, hl0, hc0, h'⟩ := h.form
  simp only [maxLen] at hc0
  have Hh := Lib.hid h'
  clear h h'
  have hno := fun k (hk : k < f.length) hx => bnd_no (f := f) hk hx
  have Hno := Lib.hid hno
  clear hno
  go_enter Try.func27, Try.ntmps27
  go_wp2_with fail
  go_loop [3] (fun i => ∃ k : Nat, k ≤ f.length ∧ i = .int .i64 k ∧ Hid ((f.take k).all ndB = true)) (fun i => f.length - (intOf i).toNat)
  case atStart => exact ⟨0, Nat.zero_le _, rfl, Lib.hid rfl⟩
  case round =>
    obtain ⟨k, hk, rfl, hall⟩ := hrel
    by_cases hlt : k < f.length
    · obtain ⟨b, o, Aa, ca, Ak, ck, rfl, hbl, g0, g1, g2, g3, g4, g5, ra, rk, la, lca, lk, lck, m1, m2, m3, m4⟩ := node_at Hh.out hlt
      simp only [maxLen] at lca lck m1 m2
      have hno := Hno.out k hlt
      have htk : f.take (k + 1) = f.take k ++ [f[k]] := List.take_succ_eq_append_getElem hlt
      have hallk : ndB f[k] = true → (f.take (k + 1)).all ndB = true := fun hx => by rw [htk, List.all_append, hall.out]; simp [hx]
      have Hallk := Lib.hid hallk
      clear hallk htk
      generalize f[k] = n at *
      obtain ⟨kd, nm, tx, ats, par, kks⟩ := n
      simp only at *
      have Hra := Lib.hid ra
      by_cases c1 : (nm.size : Int) ≤ 100
      case neg =>
        have hf := hno (nd_no (by simp only; omega))
        have Hf := Lib.hid hf
        clear hf hno ra rk
        go_wp2_with fail
        go_ret
        exact ⟨ret_bool Hf.out.symm, rfl⟩
      by_cases c2 : (tx.size : Int) ≤ 100
      case neg =>
        have hf := hno (nd_no (by simp only; omega))
        have Hf := Lib.hid hf
        clear hf hno ra rk
        go_wp2_with fail
        go_ret
        exact ⟨ret_bool Hf.out.symm, rfl⟩
      by_cases c3 : (ats.length : Int) ≤ 12
      case neg =>
        have hf := hno (nd_no (by simp only; omega))
        have Hf := Lib.hid hf
        clear hf hno ra rk
        go_wp2_with fail
        go_ret
        exact ⟨ret_bool Hf.out.symm, rfl⟩
      by_cases c4 : (kks.length : Int) ≤ 80
      case neg =>
        have hf := hno (nd_no (by simp only; omega))
        have Hf := Lib.hid hf
        clear hf hno ra rk
        go_wp2_with fail
        go_ret
        exact ⟨ret_bool Hf.out.symm, rfl⟩
      have hav := fun j (hj : j < ats.length) hx => hno (av_no (n := ⟨kd, nm, tx, ats, par, kks⟩) hj hx)
      have hyes : ats.all avB = true → ndB ⟨kd, nm, tx, ats, par, kks⟩ = true := fun hx => by unfold ndB; simp only; rw [hx, decide_eq_true (by omega)]; rfl
      have Hav := Lib.hid hav; have Hyes := Lib.hid hyes
      clear hno hav hyes ra rk
      go_wp2_with fail
      go_loop [4] (fun i => ∃ j : Nat, j ≤ ats.length ∧ i = .int .i64 j ∧ Hid ((ats.take j).all avB = true)) (fun i => ats.length - (intOf i).toNat)
      case atStart => exact ⟨0, Nat.zero_le _, rfl, Lib.hid rfl⟩
      case round =>
        obtain ⟨j, hj, rfl, hal⟩ := hrel
        by_cases hjl : j < ats.length
        · obtain ⟨ba, oa, rfl, hba, q0, q1, mm1, mm2⟩ := FAttr.attr_at Hra.out hjl
          simp only [maxLen] at mm1 mm2
          have hav := Hav.out j hjl
          have htk : ats.take (j + 1) = ats.take j ++ [ats[j]] := List.take_succ_eq_append_getElem hjl
          have halk : avB ats[j] = true → (ats.take (j + 1)).all avB = true := fun hx => by rw [htk, List.all_append, hal.out]; simp [hx]
          have Halk := Lib.hid halk
          clear halk htk
          generalize ats[j] = a at *
          obtain ⟨an, av⟩ := a
          simp only at *
          by_cases d1 : (an.size : Int) ≤ 100
          case neg =>
            have hf := hav (by unfold avB; rw [decide_eq_false (by simp only; omega)]; rfl)
            have Hf := Lib.hid hf
            clear hf hav
            go_wp2_with fail
            go_ret
            exact ⟨ret_bool Hf.out.symm, rfl⟩
          by_cases d2 : (av.size : Int) ≤ 100
          case neg =>
            have hf := hav (by unfold avB; rw [decide_eq_false (p := av.size ≤ 100) (by omega)]; simp)
            have Hf := Lib.hid hf
            clear hf hav
            go_wp2_with fail
            go_ret
            exact ⟨ret_bool Hf.out.symm, rfl⟩
          have hgo := Halk.out (by unfold avB; rw [decide_eq_true (p := an.size ≤ 100) (by omega), decide_eq_true (p := av.size ≤ 100) (by omega)]; rfl)
          have Hgo := Lib.hid hgo
          clear hgo hav
          go_wp2_with fail
          go_round
          case rel => exact ⟨j + 1, by omega, by go_num, Hgo⟩
          case measure => simp [intOf]; omega
        · obtain rfl : j = ats.length := by omega
          rw [List.take_length] at hal
          have Hgo := Lib.hid (Hallk.out (Hyes.out hal.out))
          clear hjl
          go_wp2_with fail
          go_round
          case rel => exact ⟨k + 1, by omega, by go_num, Hgo⟩
          case measure => simp [intOf]; omega
    · obtain rfl : k = f.length := by omega
      rw [List.take_length] at hall
      clear hlt
      go_wp2_with fail
      go_ret
      refine ⟨ret_bool ?_, rfl⟩
      unfold bndB
      rw [hall.out, Bool.true_and]
      rw [Bool.eq_iff_iff]; simp; try omega
end Go.Proofs.Ytbbompmpecblgaa.LBnd
