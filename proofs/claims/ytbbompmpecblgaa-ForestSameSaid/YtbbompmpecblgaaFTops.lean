/- forest.Tops, New. -/
import Derived.Test.YtbbompmpecblgaaFBelow
namespace Go.Proofs.Ytbbompmpecblgaa.FTops
open Go Go.RowKit Go.Proofs.Ytbbompmpecblgaa.Seq Go.Proofs.Ytbbompmpecblgaa.WS Go.Proofs.Ytbbompmpecblgaa.FS Go.Proofs.Ytbbompmpecblgaa.WordIt Go.Proofs.Ytbbompmpecblgaa.Mem Go.Proofs.Ytbbompmpecblgaa.Rd Go.Proofs.Ytbbompmpecblgaa.Word Go.Proofs.Ytbbompmpecblgaa.WordHas Go.Proofs.Ytbbompmpecblgaa.Shapes Go.Proofs.Ytbbompmpecblgaa.FFam Go.Proofs.Ytbbompmpecblgaa.FMay
set_option linter.unusedVariables false
set_option linter.unusedSimpArgs false

theorem grown_below {w W w7 : World} {B : Nat} {e : TypeId} {sz : Nat} {v : Value} {n : Nat} {xs : List Value} (h : Below w.heap.size w W) (hg : W.grownBy w7 v.ownBlock) (hown : W.ownsRow B e sz v n xs) (hB : w.heap.size ≤ B) : Below w.heap.size w w7 :=
  h.trans ((Off.grown (Y := fun b => B ≤ b) hg (fun r hr => (hown.lt r hr).1)).toBelow h.size (fun b hb => Nat.le_trans hB hb))
theorem own_ints {w : World} {base : Nat} {v : Value} {l : List Int} (h : w.ownsRow base 3 1 v l.length (l.map (Value.int .i64))) (hw : ∀ x ∈ l, (Lit.int .i64 x).wf = true) : RdL (intE .i64) 1 w.heap.size w v l := by
  refine RdL.of_own h rfl (fun g hg => (h.lt g hg).2) (fun i hi => ⟨?_, hw _ (List.getElem_mem _)⟩)
  rw [Nat.mul_one, List.drop_eq_getElem_cons (by simpa using hi)]
  simp
theorem wf_i64 {x : Int} (h1 : -9223372036854775808 ≤ x) (h2 : x ≤ 9223372036854775807) : (Lit.int .i64 x).wf = true := by
  simp only [Lit.wf, Bool.and_eq_true, decide_eq_true_eq]
  exact ⟨h1, h2⟩
def topsTo (f : Fo) (k : Nat) : List Int := ((List.range k).filter (fun (i : Nat) => (at_ f i).parent == -1)).map (fun (i : Nat) => (i : Int))
theorem topsTo_succ (f : Fo) (k : Nat) : topsTo f (k + 1) = if (at_ f k).parent = -1 then topsTo f k ++ [(k : Int)] else topsTo f k := by
  unfold topsTo
  rw [List.range_succ, List.filter_append]
  by_cases h : (at_ f k).parent = -1
  · simp [h]
  · simp [h]
theorem topsTo_le (f : Fo) (k : Nat) : (topsTo f k).length ≤ k := by
  unfold topsTo
  rw [List.length_map]
  exact Nat.le_trans (List.length_filter_le _ _) (by simp)
set_option maxRecDepth 100000 in
set_option maxHeartbeats 4000000 in
theorem Tops_calls (w : World) (v : Value) (f : Fo) (h : RdF w.heap.size w v f) (hkm : ∀ n ∈ f, n.kids.length ≤ 1000) :
    Calls Try.prog 33 #[v] w fun e w' => ∃ v', e = .returned v' ∧ w'.ownsRow w.heap.size 3 1 v' (if mayB f then topsL f else []).length ((if mayB f then topsL f else []).map (Value.int .i64)) ∧ Below w.heap.size w w' := by
  have HR := Lib.hid (fun w' hb => h.below nodeE_keeps (w' := w') hb (Nat.le_refl _))
  have hmy := May_calls w v f h hkm
  obtain ⟨A0, c0, rfl, hl0, hc0, _⟩ := h.form
  simp only [maxLen] at hc0
  clear h
  cases hm : mayB f with
  | false =>
    rw [hm] at hmy
    have Hmy := Lib.hid hmy
    clear hmy hm
    go_enter Try.func33, Try.ntmps33
    go_wp2_with (go_at_call 32; with_reducible refine (Hmy.out).mono ?_; rintro e w5 ⟨rfl, hb5⟩; have Hb5 := Lib.hid hb5; clear hb5)
    go_ret
    exact ⟨_, rfl, World.ownsRow_nil _ _ _ _, Hb5.out⟩
  | true =>
    rw [hm] at hmy
    have Hmy := Lib.hid hmy; clear hmy
    have hlen := (may_len hm).2
    rw [if_pos rfl, show topsL f = topsTo f f.length from rfl]
    go_enter Try.func33, Try.ntmps33
    go_wp2_with (go_at_call 32; with_reducible refine (Hmy.out).mono ?_; rintro e w5 ⟨rfl, hb5⟩; have Hb5 := Lib.hid hb5; clear hb5)
    go_loopw [2, 10] (fun u i wr => ∃ k : Nat, k ≤ f.length ∧ i = .int .i64 k ∧ wr.ownsRow w.heap.size 3 1 u (topsTo f k).length ((topsTo f k).map (Value.int .i64)) ∧ Below w.heap.size w wr) (fun _ i _ => f.length - (intOf i).toNat)
    case atStart => exact ⟨0, Nat.zero_le _, rfl, World.ownsRow_nil _ _ _ _, Hb5.out⟩
    case round =>
      obtain ⟨k, hk, rfl, h1, h2⟩ := hrel
      by_cases hlt : k < f.length
      · obtain ⟨b, o, Aa, ca, Ak, ck, rfl, hbl, g0, g1, g2, g3, g4, g5, ra, rk, la, lca, lk, lck, m1, m2, m3, m4⟩ := node_at (HR.out _ h2) hlt
        have hts := topsTo_succ f k
        have htl := topsTo_le f k
        rw [at_nat hlt] at hts
        have hbx := h2.alloc h2.size (.cells #[.int .i64 f[k].kind, .string f[k].name, .string f[k].text, .slice Aa f[k].attrs.length ca, .int .i64 f[k].parent, .slice Ak f[k].kids.length ck] 45)
        have hox := own_keep h1 (w' := wr.alloc (.cells #[.int .i64 f[k].kind, .string f[k].name, .string f[k].text, .slice Aa f[k].attrs.length ca, .int .i64 f[k].parent, .slice Ak f[k].kids.length ck] 45)) (fun g hg => Below.heap_alloc _ _ _ (h1.lt g hg).2)
        have ep : (f[k].parent == -1) = decide (f[k].parent = -1) := rfl
        by_cases hpr : f[k].parent = -1
        · rw [if_pos hpr] at hts
          have hox2 : (wr.alloc (.cells #[.int .i64 f[k].kind, .string f[k].name, .string f[k].text, .slice Aa f[k].attrs.length ca, .int .i64 f[k].parent, .slice Ak f[k].kids.length ck] 45)).ownsRow w.heap.size 3 1 u2 ((topsTo f k).map (Value.int .i64)).length ((topsTo f k).map (Value.int .i64)) := by rw [List.length_map]; exact hox
          have hB : w.heap.size ≤ (wr.alloc (.cells #[.int .i64 f[k].kind, .string f[k].name, .string f[k].text, .slice Aa f[k].attrs.length ca, .int .i64 f[k].parent, .slice Ak f[k].kids.length ck] 45)).heap.size := hbx.size
          rw [hpr] at g4 hox2 hbx hox hB ep
          have Hbx := Lib.hid hbx; have Hox := Lib.hid hox2; have Hts := Lib.hid hts; have HB := Lib.hid hB
          clear h1 h2 ra rk hbx hox hox2 hts m1 m2 m3 m4 hB
          go_wp2_with (at_builtin; go_loud (refine pl_append _ w.heap.size rfl _ _ 40 3 (.int .i64 0) 8 rfl Try.underlying40 info_int rfl u2 ((topsTo f k).map (Value.int .i64)) (.int .i64 k) rfl (by simp [Act.eval]) rfl Hox.out HB.out (by rw [List.length_map]; omega) (by rw [List.length_map]; simp [maxLen]; omega) ?_); rintro v7 w7 hown7 hgrow7 ⟨g7, cap7, rfl, hat⟩; have Hown7 := Lib.hid hown7; have Hgrow7 := Lib.hid hgrow7; clear hown7 hgrow7 hat)
          go_roundw
          case rel =>
            refine ⟨k + 1, by omega, by go_num, ?_, grown_below Hbx.out Hgrow7.out Hox.out (Nat.le_refl _)⟩
            have h9 := Hown7.out
            rw [show (topsTo f k).map (Value.int .i64) ++ [Value.int .i64 k] = (topsTo f (k + 1)).map (Value.int .i64) by rw [Hts.out, List.map_append]; rfl, List.length_map] at h9
            simpa only [List.length_map] using h9
          case measure => simp [intOf]; omega
        · rw [if_neg hpr] at hts
          rw [decide_eq_false hpr] at ep
          have Hbx := Lib.hid hbx; have Hox := Lib.hid hox; have Hts := Lib.hid hts
          clear h1 h2 ra rk hbx hox hts m1 m2 m3 m4 hpr
          go_wp2_with fail
          go_roundw
          case rel => exact ⟨k + 1, by omega, by go_num, by rw [Hts.out]; exact Hox.out, Hbx.out⟩
          case measure => simp [intOf]; omega
      · obtain rfl : k = f.length := by omega
        have H1 := Lib.hid h1; have H2 := Lib.hid h2
        clear h1 h2
        go_wp2_with fail
        go_ret
        exact ⟨_, rfl, H1.out, H2.out⟩
end Go.Proofs.Ytbbompmpecblgaa.FTops
