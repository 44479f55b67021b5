/- forest.New. -/
import Derived.Test.YtbbompmpecblgaaFTops
namespace Go.Proofs.Ytbbompmpecblgaa.FNew
open Go Go.RowKit Go.Proofs.Ytbbompmpecblgaa.Seq Go.Proofs.Ytbbompmpecblgaa.WS Go.Proofs.Ytbbompmpecblgaa.FS Go.Proofs.Ytbbompmpecblgaa.Mem Go.Proofs.Ytbbompmpecblgaa.Rd Go.Proofs.Ytbbompmpecblgaa.Shapes
set_option linter.unusedVariables false
set_option linter.unusedSimpArgs false
/-- The document alone. -/
def newF : Fo := [{ parent := -1 }]
theorem New_calls (w : World) : Calls Try.prog 36 #[] w fun e w' => ∃ v, e = .returned v ∧ RdF w'.heap.size w' v newF ∧ Below w.heap.size w w' := by
  go_enter Try.func36, Try.ntmps36
  go_wp2_with fail
  go_ret
  refine ⟨_, rfl, ?_, (Below.refl _ _).alloc (Nat.le_refl _) _⟩
  have h0 := World.ownsRow_lit (base := w.heap.size) (e := 45) (size := 6) w #[.int .i64 0, .string ⟨#[]⟩, .string ⟨#[]⟩, .slice none 0 0, .int .i64 (-1), .slice none 0 0] 1 (Nat.le_refl _) (by simp [maxLen]) rfl
  refine RdL.of_own (l := newF) h0 rfl (fun g hg => (h0.lt g hg).2) (fun i hi => ?_)
  have : i = 0 := by have : i < 1 := hi; omega
  subst this
  exact ⟨.slice none 0 0, .slice none 0 0, rfl, RdL.nil, RdL.nil, show (0 : Nat) ≤ maxLen by decide, show (0 : Nat) ≤ maxLen by decide, show (Lit.int .i64 0).wf = true by decide, show (Lit.int .i64 (-1)).wf = true by decide⟩
end Go.Proofs.Ytbbompmpecblgaa.FNew
