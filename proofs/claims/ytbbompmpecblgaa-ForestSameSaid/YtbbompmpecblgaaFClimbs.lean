/- forest.climbs itself. -/
import Derived.Test.YtbbompmpecblgaaFClimb
namespace Go.Proofs.Ytbbompmpecblgaa.FClimbs
open Go Go.RowKit Go.Proofs.Ytbbompmpecblgaa.Seq Go.Proofs.Ytbbompmpecblgaa.WS Go.Proofs.Ytbbompmpecblgaa.FS Go.Proofs.Ytbbompmpecblgaa.WordIt Go.Proofs.Ytbbompmpecblgaa.Mem Go.Proofs.Ytbbompmpecblgaa.Rd Go.Proofs.Ytbbompmpecblgaa.Word Go.Proofs.Ytbbompmpecblgaa.WordHas Go.Proofs.Ytbbompmpecblgaa.Shapes Go.Proofs.Ytbbompmpecblgaa.FFam Go.Proofs.Ytbbompmpecblgaa.FClimb
set_option linter.unusedVariables false
set_option linter.unusedSimpArgs false

theorem run_store_func (P : Program) (w : World) (a : Addr) (m : Mode) (fn : Fn) (first cap : Array Value) : (store a (.func fn first cap) m).run P w = stored P w a (.func fn first cap) m := run_store P w a _ m rfl
attribute [local go_sem] run_store_func
theorem made_dRow (n : Nat) : (madeCells #[Value.int .i64 0] n).toList = dRow n (fun _ => 0) := by
  rw [made_row]; rfl
set_option maxRecDepth 100000 in
set_option maxHeartbeats 4000000 in
theorem climbs_calls (w : World) (v : Value) (f : Fo) (h : RdF w.heap.size w v f) (hn : f.length ≤ 60) (hp : ∀ i : Nat, i < f.length → -1 ≤ (at_ f i).parent ∧ (at_ f i).parent < f.length) :
    Calls Try.prog 67 #[v] w fun e w' => e = .returned (.bool (climbsB f)) ∧ Below w.heap.size w w' := by
  have HR := Lib.hid (fun w' hb => h.below nodeE_keeps (w' := w') hb (Nat.le_refl _))
  obtain ⟨A0, c0, rfl, hl0, hc0, _⟩ := h.form
  have hc0' := hc0
  simp only [maxLen] at hc0
  have hmk := fun W => run_make_row' (P := Try.prog) 40 3 (.int .i64 0) 8 Try.underlying40 info_int rfl .i64 .i64 f.length (by omega) (by omega) W
  have hmf : ∀ (fn : Fn) (first cap : Array Value) (w : World), (Instr.makeFunc fn first cap).run Try.prog w = .ok (.func fn first cap) w := fun _ _ _ _ => rfl
  have Hp := Lib.hid hp
  clear h hp
  go_enter Try.func67, Try.ntmps67
  go_wp2_with fail
  clear hmk hmf
  obtain ⟨W0, hW0⟩ : ∃ W0, (((w.alloc (.cells #[.slice A0 f.length c0] 33)).alloc (.cells (madeCells #[.int .i64 0] f.length) 3)).alloc (.cells #[.slice (some ⟨w.heap.size + 1, 0, none⟩) f.length f.length] 40)).alloc (.cells #[.func (.func 88) #[] #[.pointer (some ⟨w.heap.size + 1 + 1, 0, none⟩), .pointer (some ⟨w.heap.size + 1 + 1 + 1, 0, none⟩), .pointer (some ⟨w.heap.size, 0, none⟩)]] 117) = W0 := ⟨_, rfl⟩
  have hbl : Below w.heap.size w W0 := by rw [← hW0]; exact ((((Below.refl _ _).alloc (Nat.le_refl _) _).alloc (by simp) _).alloc (by simp; omega) _).alloc (by simp; omega) _
  have hI0 : CInv f (w.heap.size + 1 + 1) (w.heap.size + 1 + 1 + 1) w.heap.size (w.heap.size + 1) w.heap.size w.heap.size c0 A0 (fun _ => 0) W0 := by
    refine ⟨?_, ?_, ?_, ?_, HR.out _ hbl, by omega, by omega, by omega, by omega⟩
    · rw [← hW0]; exact heap_old (heap_new (by simp))
    · rw [← hW0]; exact heap_new (by simp)
    · rw [← hW0]; exact heap_old (heap_old (heap_old (heap_new rfl)))
    · have h0 := World.ownsRow_lit (base := w.heap.size) (e := 3) (size := 1) (w.alloc (.cells #[.slice A0 f.length c0] 33)) (madeCells #[.int .i64 0] f.length) f.length (by simp) (by simp only [maxLen]; omega) (by rw [size_madeCells]; omega)
      rw [made_dRow] at h0
      have e : (w.alloc (.cells #[.slice A0 f.length c0] 33)).heap.size = w.heap.size + 1 := by simp
      rw [e] at h0
      rw [← hW0]
      exact (h0.alloc _).alloc _
  rw [hW0]
  clear hW0
  have HI0 := Lib.hid hI0; have Hbl := Lib.hid hbl
  clear hI0 hbl
  go_loopw [12] (fun i wr => ∃ (k : Nat) (d : Nat → Int), k ≤ f.length ∧ i = .int .i64 k ∧ CInv f (w.heap.size + 1 + 1) (w.heap.size + 1 + 1 + 1) w.heap.size (w.heap.size + 1) w.heap.size w.heap.size c0 A0 d wr ∧ Below w.heap.size w wr ∧
    (∀ j, j < f.length → ¬ d j < 0) ∧ (∀ j, j < f.length → 0 < d j → ∃ m, Up f m j) ∧ (∀ j, j < k → ∃ m, Up f m (j : Int))) (fun i _ => f.length - (intOf i).toNat)
  case atStart => exact ⟨0, fun _ => 0, Nat.zero_le _, rfl, HI0.out, Hbl.out, fun j hj => Int.lt_irrefl 0, fun j hj h => absurd h (Int.lt_irrefl 0), fun j hj => by omega⟩
  case round =>
    obtain ⟨k, d, hk, rfl, h1, h2, h3, h4, h5⟩ := hrel
    by_cases hlt : k < f.length
    · have hc := climb_calls f hn Hp.out (w.heap.size + 1 + 1) (w.heap.size + 1 + 1 + 1) w.heap.size (w.heap.size + 1) w.heap.size w.heap.size c0 A0 hl0 (by omega) (zeros f.length d) k d wr (Nat.le_refl _) (by omega) (by omega) h1 h4 (fun j hj hd => absurd hd (h3 j hj))
      have e2 := cell_of h1.vc
      have H1 := Lib.hid h1; have H2 := Lib.hid h2; have H3 := Lib.hid h3; have H4 := Lib.hid h4; have H5 := Lib.hid h5; have Hc := Lib.hid hc
      clear h1 h2 h3 h4 h5 hc
      go_wp2_with (go_at_call 88; go_loud (refine (Hc.out).mono ?_; rintro e w5 ⟨r, d', rfl, hI5, ho5, hr5, hf5⟩; have HI5 := Lib.hid hI5; have Ho5 := Lib.hid ho5; have Hr5 := Lib.hid hr5; have Hf5 := Lib.hid hf5; clear hI5 ho5 hr5 hf5; cases r))
      · go_ret
        refine ⟨ret_bool (climbs_false (fun hcp => Hf5.out (by trivial) (hcp k hlt))).symm, H2.out.trans (Ho5.out.toBelow H2.out.size (fun b hb => by rw [hb]; omega))⟩
      · obtain ⟨g1, g2, g3, g4⟩ := Hr5.out (by trivial)
        go_roundw
        case rel =>
          refine ⟨k + 1, d', by omega, by go_num, HI5.out, H2.out.trans (Ho5.out.toBelow H2.out.size (fun b hb => by rw [hb]; omega)), fun j hj hd => by have h7 := H3.out j hj; have h8 := (g3 j hj).1 hd; omega, g2, fun j hj => ?_⟩
          by_cases e : j = k
          · subst e; exact g1
          · exact H5.out j (by omega)
        case measure => simp [intOf]; omega
    · obtain rfl : k = f.length := by omega
      have hcl : climbsB f = true := climbs_true (fun i hi => h5 i hi)
      have H2 := Lib.hid h2; have Hcl := Lib.hid hcl
      clear h1 h2 h3 h4 h5 hcl
      go_wp2
      go_ret
      exact ⟨ret_bool Hcl.out.symm, H2.out⟩
end Go.Proofs.Ytbbompmpecblgaa.FClimbs
