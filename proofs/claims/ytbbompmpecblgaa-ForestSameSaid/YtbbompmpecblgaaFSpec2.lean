/- Forests: below, tops. No program. -/
import Derived.Test.YtbbompmpecblgaaFSpec
namespace Go.Proofs.Ytbbompmpecblgaa.FS
set_option linter.unusedVariables false
/-- Is id below top (or top itself)? -/
def belowP (f : Fo) (top id : Int) : Prop := 0 ≤ top ∧ ∃ m, Reach f m id top
noncomputable def belowB (f : Fo) (top id : Int) : Bool := mayB f && isNode f id && @decide (belowP f top id) (Classical.propDecidable _)
def topsL (f : Fo) : List Int := ((List.range f.length).filter (fun (i : Nat) => (at_ f i).parent == -1)).map (fun (i : Nat) => (i : Int))
theorem belowP_step {f : Fo} {top j : Int} (h0 : 0 ≤ j) (hne : j ≠ top) : belowP f top j ↔ belowP f top (at_ f j).parent := by
  constructor
  · rintro ⟨h, m, hm⟩
    cases m with
    | zero => exact absurd hm hne
    | succ m => exact ⟨h, m, hm.2⟩
  · rintro ⟨h, m, hm⟩
    exact ⟨h, m + 1, h0, hm⟩
theorem belowP_end {f : Fo} {top : Int} (hne : (-1 : Int) ≠ top) : ¬ belowP f top (-1) := by
  rintro ⟨h, m, hm⟩
  cases m with
  | zero => exact hne hm
  | succ m => have : (0 : Int) ≤ -1 := hm.1; omega
theorem below_eq {f : Fo} {top id : Int} (hm : mayB f = true) (hn : isNode f id = true) {b : Bool} (h : belowP f top id ↔ b = true) : belowB f top id = b := by
  unfold belowB
  rw [hm, hn]
  cases b with
  | false =>
    have : ¬ belowP f top id := fun hp => by have := h.1 hp; cases this
    rw [@decide_eq_false _ (Classical.propDecidable _) this]; rfl
  | true => rw [@decide_eq_true _ (Classical.propDecidable _) (h.2 rfl)]; rfl
theorem may_climbs {f : Fo} (h : mayB f = true) : climbsP f := by
  unfold mayB at h
  simp only [Bool.and_eq_true] at h
  exact climbs_iff.1 h.2
theorem may_family {f : Fo} (h : mayB f = true) : familyB f = true := by
  unfold mayB at h
  simp only [Bool.and_eq_true] at h
  exact h.1.2
theorem may_len {f : Fo} (h : mayB f = true) : 1 ≤ f.length ∧ f.length ≤ 60 := by
  unfold mayB at h
  simp only [Bool.and_eq_true, decide_eq_true_eq] at h
  exact ⟨h.1.1.1.1.1, h.1.1.1.1.2⟩
end Go.Proofs.Ytbbompmpecblgaa.FS
